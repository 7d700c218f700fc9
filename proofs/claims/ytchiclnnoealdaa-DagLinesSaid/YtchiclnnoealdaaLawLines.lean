/- The law DagLines: it returns true. (ex_bld1_at, ex_bld0_at: such IDs are met by these rules.) -/
import Derived.Test.YtchiclnnoealdaaLawB
import Derived.Test.YtchiclnnoealdaaLinesP
import Derived.Test.YtchiclnnoealdaaRegM
namespace Go.Proofs.Ytchiclnnoealdaa
open Go.RowKit Go.Maps Go.Sort Go.Shelf
set_option linter.unusedVariables false
set_option linter.unusedSimpArgs false

def LinR (w : World) (D n : Nat) (gk : Nat) (lv iv xv : Value) (wr : World) : Prop :=
  ∃ k S B cB A cA, xv = .int .i64 ((k : Nat) : Int) ∧ gk = n - k ∧ k ≤ n ∧ lv = .slice B (lastL k).length cB ∧ iv = .slice A k cA ∧ DagL w wr D (LG k) S ∧ Sl wr B (idc (lastL k)) ∧ Off B S ∧ OwnD w wr A cA (rowL k) ∧ Off A S
theorem rowL_len (n : Nat) : (rowL n).length = n := by simp [rowL]
theorem rowL_succ (n : Nat) : rowL (n + 1) = rowL n ++ [LL n] := by simp [rowL, List.range_succ]
theorem rowL_get {n i : Nat} (h : i < (rowL n).length) : (rowL n)[i] = LL i := by simp [rowL]
set_option maxRecDepth 100000 in
set_option maxHeartbeats 4000000 in
theorem lines_any (w : World) (a0 a1 a2 : Int) : Calls Try.prog 6 #[.int .i64 a0, .int .i64 a1, .int .i64 a2] w (lawPost w) := by
  go_enter Try.func6, Try.ntmps6
  go_wp2_with fail
  go_at_call 9
  refine (alive_any w).mono ?_
  rintro e w1 ⟨rfl, f1⟩
  obtain ⟨r, er, hr⟩ := and_mask a0 31 (by omega)
  obtain ⟨r1, er1, hr1⟩ := and_mask a1 1023 (by omega)
  obtain ⟨r2, er2, hr2⟩ := and_mask a2 1023 (by omega)
  have er' : bits BinOp.and IntKind.i64 a0 31 = (r : Int) := er
  have ew : wrap64 (1 + (r : Int)) = ((r + 1 : Nat) : Int) := by unfold wrap64; omega
  clear er
  have ER1 := Lib.hid er1
  have ER2 := Lib.hid er2
  clear er1 er2
  go_wp2_with fail
  go_at_call 8
  refine (newL_any w w1 f1 (fun _ => False) (fun _ h => h.elim)).mono ?_
  rintro e w2 ⟨D, rfl, hD, f2⟩
  go_wp2_with fail
  go_loopg [8, 9, 10] (r + 1) (fun gk lv iv xv wr => LinR w D (r + 1) gk lv iv xv wr)
  case atStart =>
    have ff : Fr noB w2 ((w2.alloc (.cells #[] 24)).alloc (.cells #[] 24)) := ((Fr.refl _ _).alloc _).alloc _
    have hL := hD.more ff
    refine ⟨0, _, _, 0, _, 0, rfl, rfl, by omega, rfl, rfl, hL, Sl.nil _ _, ?_, ?_, ?_⟩
    · intro a ha
      injection ha with ha
      subst ha
      exact .inr ⟨Nat.le_refl _, by simp; omega⟩
    · have := World.ownsRow_lit (base := (w2.alloc (.cells #[] 24)).heap.size) (e := 24) (size := 32) (w2.alloc (.cells #[] 24)) #[] 0 (Nat.le_refl _) (by simp [maxLen]) rfl
      exact own_base (by simpa [rowL, idc] using this) (by have := hD.fr.size; simp; omega)
    · intro a ha
      injection ha with ha
      subst ha
      exact .inr ⟨by simp, by simp⟩
  case round =>
    obtain ⟨k, S, B, cB, A, cA, rfl, rfl, hkn, rfl, rfl, hDk, hsB, hoB, hoA, hfA⟩ := hrel
    by_cases hlt : k < r + 1
    · have i1 : (k : Int) < 1 + (r : Int) := by omega
      have w1' : wrap64 ((k : Int) + 1) = k + 1 := by unfold wrap64; omega
      have w3' : IntKind.u8.wrap ((k : Int) + 1) = k + 1 := by rw [IntKind.wrap_u8]; omega
      have t1 : ((k : Int) + 1).toNat = k + 1 := by omega
      have c1 : (0 : Int) ≤ k + 1 := by omega
      have c2 : (k + 1 : Int) < 256 := by omega
      have s1 : bxI (wr.alloc (ido zID)) wr.heap.size = some zID := bxI_new _ _
      obtain ⟨a1', a2', q0⟩ := putB_fr s1 (id2 (k + 1) 0)
      have fb : Fr noB wr (putB (wr.alloc (ido zID)) wr.heap.size (id2 (k + 1) 0)) := ((Fr.refl noB wr).alloc _).step1 a1' (Nat.le_refl _)
      have lw : w.heap.size ≤ wr.heap.size := hDk.fr.size
      have sz : (putB (wr.alloc (ido zID)) wr.heap.size (id2 (k + 1) 0)).heap.size = wr.heap.size + 1 := by rw [a2']; simp
      have hD1 := hDk.more fb
      rw [sz] at hD1
      have hs1 := hsB.fr0 fb
      have hl2 : (lastL k).length ≤ 1 := by cases k <;> simp [lastL]
      have o1 := hoB.mono (Q := fun b => ¬ notS w (fun b => S b ∨ (wr.heap.size ≤ b ∧ b < wr.heap.size + 1)) b) (fun b hb hn => hn.2 (.inl hb))
      have o2 := hfA.mono (Q := fun b => ¬ notS w (fun b => S b ∨ (wr.heap.size ≤ b ∧ b < wr.heap.size + 1)) b) (fun b hb hn => hn.2 (.inl hb))
      have o3 : ¬ notS w (fun b => S b ∨ (wr.heap.size ≤ b ∧ b < wr.heap.size + 1)) wr.heap.size := fun hn => hn.2 (.inr ⟨Nat.le_refl _, by omega⟩)
      have hoA1 : OwnD w (putB (wr.alloc (ido zID)) wr.heap.size (id2 (k + 1) 0)) A cA (rowL k) := own_fr hoA fb (fun _ _ => by simp [noB])
      have e0 : addG (LG k) (id2 (k + 1) 0) (lastL k) = (0, LG (k + 1)) := LG_add (by omega)
      have e1 : addG (LG (k + 1)) (id2 (k + 1) 0) (lastL k) = (0, LG (k + 1)) := LG_again (by omega)
      have e2 : addG (LG (k + 1)) (id2 (k + 1) 0) [id2 77 0] = (5, LG (k + 1)) := LG_twice (by omega)
      generalize hS1 : (fun b => S b ∨ (wr.heap.size ≤ b ∧ b < wr.heap.size + 1)) = S1 at hD1 o1 o2 o3
      have hSS : ∀ b, S b → S1 b := by subst hS1; exact fun b hb => .inl hb
      have E0 := Lib.hid e0
      have E1 := Lib.hid e1
      have E2 := Lib.hid e2
      have SZ := Lib.hid sz
      clear e0 e1 e2 hS1 a1' a2' sz
      have r0 := bxI_rd q0
      go_wp2_with fail
      go_at_call 10
      refine (addL_any hD1 (by rw [LG_len]; omega) (id2 (k + 1) 0) B cB _ (lastL k) rfl hs1 (by omega)).mono ?_
      rintro e v1 ⟨rfl, hE1, hg1⟩
      rw [E0.out] at hE1 ⊢
      have r1 := rdI_fr r0 (rdI_lt r0) hg1 o3
      have hs2 := hs1.fr hg1 o1
      go_wp2_with fail
      go_at_call 10
      refine (addL_any hE1 (by rw [LG_len]; omega) (id2 (k + 1) 0) B cB _ (lastL k) rfl hs2 (by omega)).mono ?_
      rintro e v2 ⟨rfl, hE2, hg2⟩
      rw [E1.out] at hE2 ⊢
      have r2 := rdI_fr r1 (rdI_lt r1) hg2 o3
      have fy : Fr noB v2 (v2.alloc (rowo [id2 77 0])) := (Fr.refl noB v2).alloc _
      have ey := sl_new v2 [id2 77 0]
      go_wp2_with fail
      go_at_call 10
      refine (addL_any (hE2.fr0 fy) (by rw [LG_len]; omega) (id2 (k + 1) 0) _ _ _ [id2 77 0] rfl ey (by simp)).mono ?_
      rintro e v3 ⟨rfl, hE3, hg3⟩
      rw [E2.out] at hE3 ⊢
      have r2' := rdI_fr r2 (rdI_lt r2) fy (by simp [noB])
      have r3 := rdI_fr r2' (rdI_lt r2') hg3 o3
      have hoA3 : OwnD w v3 A cA (rowL k) := own_fr (own_fr (own_fr (own_fr hoA1 hg1 (o2.ownN)) hg2 o2.ownN) fy (fun _ _ => by simp [noB])) hg3 o2.ownN
      have f4 : Fr noB v3 (v3.alloc (rowo [id2 (k + 1) 0])) := (Fr.refl noB v3).alloc _
      have f5 : Fr noB v3 ((v3.alloc (rowo [id2 (k + 1) 0])).alloc (rowo [id2 (k + 1) 0])) := f4.alloc _
      have r4 := rdI_fr r3 (rdI_lt r3) f4 (by simp [noB])
      have r5 := rdI_fr r3 (rdI_lt r3) f5 (by simp [noB])
      have n4 := sl_new v3 [id2 (k + 1) 0]
      have n5 := sl_new (v3.alloc (rowo [id2 (k + 1) 0])) [id2 (k + 1) 0]
      have n4' := n4.fr0 ((Fr.refl noB _).alloc (rowo [id2 (k + 1) 0]))
      have ho5 : OwnD w ((v3.alloc (rowo [id2 (k + 1) 0])).alloc (rowo [id2 (k + 1) 0])) A cA (rowL k) := own_fr hoA3 f5 (fun _ _ => by simp [noB])
      have hsz : w.heap.size ≤ ((v3.alloc (rowo [id2 (k + 1) 0])).alloc (rowo [id2 (k + 1) 0])).heap.size := by have := hE3.fr.size; simp; omega
      rw [World.size_alloc] at n5
      have hby : (rowL k).length + [id2 (k + 1) 0].length ≤ 1000000000000 := by rw [rowL_len]; simp only [List.length_cons, List.length_nil]; omega
      have hrl := rowL_len k
      have HRL := Lib.hid hrl
      clear hrl
      go_wp2_with (at_builtin; refine wpList_appD w _ rfl _ _ rfl A _ cA (rowL k) rfl HRL.out ho5 (some ⟨v3.heap.size + 1, 0, none⟩) 1 1 [id2 (k + 1) 0] rfl n5 rfl hby hsz ?_; intro A6 c6 w6 hc6 hm6 ho6 hg6 hA6)
      go_roundg (r + 1 - (k + 1))
      case measure => omega
      case rel =>
        have f6 : Fr (fun b => A.map (·.block) = some b) ((v3.alloc (rowo [id2 (k + 1) 0])).alloc (rowo [id2 (k + 1) 0])) w6 := Fr.ofGrown hg6 (fun g hg => hg)
        have f36 : Fr (fun b => A.map (·.block) = some b) v3 w6 := f5.any.trans f6 (fun _ _ h => h)
        have hAb : ∀ b, A.map (·.block) = some b → S b ∧ w.heap.size ≤ b ∧ b < v3.heap.size := by
          intro b hb
          cases A with
          | none => cases hb
          | some a =>
            simp only [Option.map_some, Option.some.injEq] at hb
            subst hb
            exact ⟨hfA _ rfl, (Off.own hoA3) _ rfl⟩
        have hL6 := hE3.grow f36 (fun b hb => ⟨hSS b (hAb b hb).1, (hAb b hb).2.1⟩)
        have z5 : ((v3.alloc (rowo [id2 (k + 1) 0])).alloc (rowo [id2 (k + 1) 0])).heap.size = v3.heap.size + 2 := by simp
        have z6 := f6.size
        rw [z5] at z6 hA6
        refine ⟨k + 1, _, some ⟨v3.heap.size, 0, none⟩, 1, A6, c6, by simp, rfl, by omega, rfl, congrArg (fun m => Value.slice A6 m c6) (by rw [rowL_len]), hL6, n4'.fr f6 ?_, ?_, by rw [rowL_succ]; exact ho6, ?_⟩
        · intro a ha hb
          injection ha with ha
          subst ha
          have := (hAb _ hb).2.2
          simp only at this
          omega
        · intro a ha
          injection ha with ha
          subst ha
          refine .inr ⟨Nat.le_refl _, ?_⟩
          show v3.heap.size < w6.heap.size
          omega
        · intro a ha
          subst ha
          rcases hA6 with h | h
          · exact .inl (hSS _ (hAb _ h.symm).1)
          · simp only [Option.map_some, Option.some.injEq] at h
            have := (Off.own ho6 _ rfl).2
            exact .inr ⟨by omega, this⟩
    · have ek : k = r + 1 := by omega
      subst ek
      have hnl : ¬ ((r + 1 : Nat) : Int) < 1 + (r : Int) := by omega
      have i2 : r1 % (r + 1) < r + 1 := Nat.mod_lt _ (by omega)
      have j2 : r2 % (r + 1) < r + 1 := Nat.mod_lt _ (by omega)
      have ht1 : (bits BinOp.and IntKind.i64 a1 1023).tmod (1 + (r : Int)) = ((r1 % (r + 1) : Nat) : Int) := by
        rw [show bits BinOp.and IntKind.i64 a1 1023 = (r1 : Int) from ER1.out, show (1 + (r : Int)) = ((r + 1 : Nat) : Int) by omega]; rfl
      have ht2 : (bits BinOp.and IntKind.i64 a2 1023).tmod (1 + (r : Int)) = ((r2 % (r + 1) : Nat) : Int) := by
        rw [show bits BinOp.and IntKind.i64 a2 1023 = (r2 : Int) from ER2.out, show (1 + (r : Int)) = ((r + 1 : Nat) : Int) by omega]; rfl
      generalize r1 % (r + 1) = i at i2 ht1
      generalize r2 % (r + 1) = j at j2 ht2
      have hl : (rowL (r + 1)).length = r + 1 := rowL_len _
      obtain ⟨g, off, rfl⟩ := (Sl.own hoA).ad (by simp [rowL])
      have gi := (Sl.own hoA).id i (by omega)
      have gj := (Sl.own hoA).id j (by omega)
      have gm := (Sl.own hoA).id (min i j) (by omega)
      have gn := (Sl.own hoA).id r (by omega)
      rw [rowL_get] at gi gj gm gn
      have oG := hfA _ rfl
      obtain ⟨Fd, hI⟩ := hDk
      have dG := hI.at_
      have x1 : (0 : Int) ≤ (i : Int) := by omega
      have x2 : (i : Int) < (r : Int) + 1 := by omega
      have y1 : (0 : Int) ≤ (j : Int) := by omega
      have y2 : (j : Int) < (r : Int) + 1 := by omega
      clear hl hoA hsB hoB hkn hlt hfA
      go_wp2_with fail
      refine wp_region_N 10 (fun w' => rdI w' g (off + i * 32) = some (LL i) ∧ rdI w' g (off + j * 32) = some (LL j)) (by kernel_rfl) (by kernel_rfl) ⟨by rw [rdI_drew]; exact gi, by rw [rdI_drew]; exact gj⟩ (fun hA hF => ?_)
      refine wpAnyN_take (i := 0) (v := ?_) hA rfl (by decide) (by kernel_rfl) (by kernel_rfl) (fun _ _ _ h => h) (Or.inl ⟨by rfl, ?_⟩) hF (fun hA => ?_)
      rotate_left
      · intro wS hSw; (try dsimp only at hSw); obtain ⟨s1, s2⟩ := hSw; first | (apply Eq.trans; apply ex_ld_id; exact rfl; exact rfl; assumption; with_reducible rfl) | (apply Eq.trans; apply ex_bld1_at; exact rfl; exact rfl; decide; with_reducible rfl) | (apply Eq.trans; apply ex_bld0_at; exact rfl; with_reducible rfl) | (go_simp; try with_reducible rfl)
      try simp only [List.getElem_toArray, List.getElem_cons_zero, List.getElem_cons_succ, Act.put, List.setIfInBounds_toArray, List.set_cons_zero, List.set_cons_succ]
      refine wpAnyN_take (i := 1) (v := ?_) hA rfl (by decide) (by kernel_rfl) (by kernel_rfl) (fun _ _ _ h => h) (Or.inl ⟨by rfl, ?_⟩) hF (fun hA => ?_)
      rotate_left
      · intro wS hSw; (try dsimp only at hSw); obtain ⟨s1, s2⟩ := hSw; first | (apply Eq.trans; apply ex_ld_id; exact rfl; exact rfl; assumption; with_reducible rfl) | (apply Eq.trans; apply ex_bld1_at; exact rfl; exact rfl; decide; with_reducible rfl) | (apply Eq.trans; apply ex_bld0_at; exact rfl; with_reducible rfl) | (go_simp; try with_reducible rfl)
      try simp only [List.getElem_toArray, List.getElem_cons_zero, List.getElem_cons_succ, Act.put, List.setIfInBounds_toArray, List.set_cons_zero, List.set_cons_succ]
      refine wpAnyN_take (i := 2) (v := ?_) hA rfl (by decide) (by kernel_rfl) (by kernel_rfl) (fun _ _ _ h => h) (Or.inl ⟨by rfl, ?_⟩) hF (fun hA => ?_)
      rotate_left
      · intro wS hSw; (try dsimp only at hSw); obtain ⟨s1, s2⟩ := hSw; first | (apply Eq.trans; apply ex_ld_id; exact rfl; exact rfl; assumption; with_reducible rfl) | (apply Eq.trans; apply ex_bld1_at; exact rfl; exact rfl; decide; with_reducible rfl) | (apply Eq.trans; apply ex_bld0_at; exact rfl; with_reducible rfl) | (go_simp; try with_reducible rfl)
      try simp only [List.getElem_toArray, List.getElem_cons_zero, List.getElem_cons_succ, Act.put, List.setIfInBounds_toArray, List.set_cons_zero, List.set_cons_succ]
      refine wpAnyN_take (i := 5) (v := ?_) hA rfl (by decide) (by kernel_rfl) (by kernel_rfl) (fun _ _ _ h => h) (Or.inl ⟨by rfl, ?_⟩) hF (fun hA => ?_)
      rotate_left
      · intro wS hSw; (try dsimp only at hSw); obtain ⟨s1, s2⟩ := hSw; first | (apply Eq.trans; apply ex_ld_id; exact rfl; exact rfl; assumption; with_reducible rfl) | (apply Eq.trans; apply ex_bld1_at; exact rfl; exact rfl; decide; with_reducible rfl) | (apply Eq.trans; apply ex_bld0_at; exact rfl; with_reducible rfl) | (go_simp; try with_reducible rfl)
      try simp only [List.getElem_toArray, List.getElem_cons_zero, List.getElem_cons_succ, Act.put, List.setIfInBounds_toArray, List.set_cons_zero, List.set_cons_succ]
      refine wpAnyN_take (i := 6) (v := ?_) hA rfl (by decide) (by kernel_rfl) (by kernel_rfl) (fun _ _ _ h => h) (Or.inl ⟨by rfl, ?_⟩) hF (fun hA => ?_)
      rotate_left
      · intro wS hSw; (try dsimp only at hSw); obtain ⟨s1, s2⟩ := hSw; first | (apply Eq.trans; apply ex_ld_id; exact rfl; exact rfl; assumption; with_reducible rfl) | (apply Eq.trans; apply ex_bld1_at; exact rfl; exact rfl; decide; with_reducible rfl) | (apply Eq.trans; apply ex_bld0_at; exact rfl; with_reducible rfl) | (go_simp; try with_reducible rfl)
      try simp only [List.getElem_toArray, List.getElem_cons_zero, List.getElem_cons_succ, Act.put, List.setIfInBounds_toArray, List.set_cons_zero, List.set_cons_succ]
      refine wpAnyN_take (i := 3) (v := ?_) hA rfl (by decide) (by kernel_rfl) (by kernel_rfl) (fun _ _ _ h => h) (Or.inl ⟨by rfl, ?_⟩) hF (fun hA => ?_)
      rotate_left
      · intro wS hSw; (try dsimp only at hSw); obtain ⟨s1, s2⟩ := hSw; first | (apply Eq.trans; apply ex_ld_id; exact rfl; exact rfl; assumption; with_reducible rfl) | (apply Eq.trans; apply ex_bld1_at; exact rfl; exact rfl; decide; with_reducible rfl) | (apply Eq.trans; apply ex_bld0_at; exact rfl; with_reducible rfl) | (go_simp; try with_reducible rfl)
      try simp only [List.getElem_toArray, List.getElem_cons_zero, List.getElem_cons_succ, Act.put, List.setIfInBounds_toArray, List.set_cons_zero, List.set_cons_succ]
      refine wpAnyN_take (i := 7) (v := ?_) hA rfl (by decide) (by kernel_rfl) (by kernel_rfl) (fun _ _ _ h => h) (Or.inl ⟨by rfl, ?_⟩) hF (fun hA => ?_)
      rotate_left
      · intro wS hSw; (try dsimp only at hSw); obtain ⟨s1, s2⟩ := hSw; first | (apply Eq.trans; apply ex_ld_id; exact rfl; exact rfl; assumption; with_reducible rfl) | (apply Eq.trans; apply ex_bld1_at; exact rfl; exact rfl; decide; with_reducible rfl) | (apply Eq.trans; apply ex_bld0_at; exact rfl; with_reducible rfl) | (go_simp; try with_reducible rfl)
      try simp only [List.getElem_toArray, List.getElem_cons_zero, List.getElem_cons_succ, Act.put, List.setIfInBounds_toArray, List.set_cons_zero, List.set_cons_succ]
      refine wpAnyN_take (i := 4) (v := ?_) hA rfl (by decide) (by kernel_rfl) (by kernel_rfl) (fun _ _ _ h => h) (Or.inl ⟨by rfl, ?_⟩) hF (fun hA => ?_)
      rotate_left
      · intro wS hSw; (try dsimp only at hSw); obtain ⟨s1, s2⟩ := hSw; first | (apply Eq.trans; apply ex_ld_id; exact rfl; exact rfl; assumption; with_reducible rfl) | (apply Eq.trans; apply ex_bld1_at; exact rfl; exact rfl; decide; with_reducible rfl) | (apply Eq.trans; apply ex_bld0_at; exact rfl; with_reducible rfl) | (go_simp; try with_reducible rfl)
      try simp only [List.getElem_toArray, List.getElem_cons_zero, List.getElem_cons_succ, Act.put, List.setIfInBounds_toArray, List.set_cons_zero, List.set_cons_succ]
      refine wpAnyN_take (i := 8) (v := ?_) hA rfl (by decide) (by kernel_rfl) (by kernel_rfl) (fun _ _ _ h => h) (Or.inl ⟨by rfl, ?_⟩) hF (fun hA => ?_)
      rotate_left
      · intro wS hSw; (try dsimp only at hSw); obtain ⟨s1, s2⟩ := hSw; first | (apply Eq.trans; apply ex_ld_id; exact rfl; exact rfl; assumption; with_reducible rfl) | (apply Eq.trans; apply ex_bld1_at; exact rfl; exact rfl; decide; with_reducible rfl) | (apply Eq.trans; apply ex_bld0_at; exact rfl; with_reducible rfl) | (go_simp; try with_reducible rfl)
      try simp only [List.getElem_toArray, List.getElem_cons_zero, List.getElem_cons_succ, Act.put, List.setIfInBounds_toArray, List.set_cons_zero, List.set_cons_succ]
      refine wpAnyN_one (i := 9) hA (by kernel_rfl) (by decide) rfl (fun K' hK => ?_)
      go_simp
      go_at_call 22
      refine (bases_any wr.drew D Fd (LG (r + 1)) (dG.fr0 (Fr.refl noB wr).drew) (LL i) (LL j)).mono ?_
      rintro e v4 ⟨l, ⟨A4, c4, rfl, ho4, hf4⟩, hr4, hm4, hb4⟩
      have el : l = [LL (min i j)] := LG_bases (by omega) i2 j2 hr4 hm4
      subst el
      have f4 : Fr noB wr v4 := ((Fr.refl noB wr).drew).step0 hf4
      refine hK.out _ _ ⟨rdI_fr gi (rdI_lt gi) f4 (by simp [noB]), rdI_fr gj (rdI_lt gj) f4 (by simp [noB])⟩ (fun hA => ?_)
      clear hK K'
      refine wpAnyN_end rfl (by kernel_rfl) ?_
      simp only [List.drop_succ_cons, List.drop_zero]
      clear hF
      obtain ⟨g4, o4, rfl⟩ := (Sl.own ho4).ad (by simp)
      have g4' := (Sl.own ho4).id 0 (by simp)
      simp only [Nat.zero_mul, Nat.add_zero, List.getElem_cons_zero] at g4'
      have L4 := DagL.more ⟨Fd, hI⟩ f4.drew
      obtain ⟨Fe, hJ⟩ := L4
      have dJ := hJ.at_
      have hS3 : ∀ b, (b = g ∨ b = g4) → ¬ notS w (fun b => S b ∨ (wr.heap.size ≤ b ∧ b < v4.drew.heap.size)) b := by
        rintro b (rfl | rfl) hn
        · exact hn.2 (.inl oG)
        · have h1 := (Off.own ho4) _ rfl
          have h2 := f4.size
          exact hn.2 (.inr ⟨by have : wr.drew.heap.size = wr.heap.size := rfl; simp only at h1; omega, h1.2⟩)
      generalize hSS : (fun b => S b ∨ (wr.heap.size ≤ b ∧ b < v4.drew.heap.size)) = S3 at hJ hS3
      clear hSS
      have keep : ∀ w' w'' : World, Fr (notS w S3) w' w'' → (rdI w' g (off + i * 32) = some (LL i) ∧ rdI w' g (off + j * 32) = some (LL j) ∧ rdI w' g (off + min i j * 32) = some (LL (min i j)) ∧ rdI w' g (off + r * 32) = some (LL r) ∧ rdI w' g4 o4 = some (LL (min i j))) →
          (rdI w'' g (off + i * 32) = some (LL i) ∧ rdI w'' g (off + j * 32) = some (LL j) ∧ rdI w'' g (off + min i j * 32) = some (LL (min i j)) ∧ rdI w'' g (off + r * 32) = some (LL r) ∧ rdI w'' g4 o4 = some (LL (min i j))) := fun w' w'' f h =>
        ⟨rdI_fr h.1 (rdI_lt h.1) f (hS3 _ (.inl rfl)), rdI_fr h.2.1 (rdI_lt h.2.1) f (hS3 _ (.inl rfl)), rdI_fr h.2.2.1 (rdI_lt h.2.2.1) f (hS3 _ (.inl rfl)), rdI_fr h.2.2.2.1 (rdI_lt h.2.2.2.1) f (hS3 _ (.inl rfl)), rdI_fr h.2.2.2.2 (rdI_lt h.2.2.2.2) f (hS3 _ (.inr rfl))⟩
      have F0 := keep _ _ (Fr.refl _ v4.drew) ⟨(rdI_drew _ _ _).trans (rdI_fr gi (rdI_lt gi) f4 (by simp [noB])), (rdI_drew _ _ _).trans (rdI_fr gj (rdI_lt gj) f4 (by simp [noB])), (rdI_drew _ _ _).trans (rdI_fr gm (rdI_lt gm) f4 (by simp [noB])), (rdI_drew _ _ _).trans (rdI_fr gn (rdI_lt gn) f4 (by simp [noB])), (rdI_drew _ _ _).trans g4'⟩
      have hdep : ((depthG (LG (r + 1)) (LL i) : Nat) : Int) = (i : Int) + 1 := by rw [LG_dep (by omega) i2]; omega
      have hrea : ancG (LG (r + 1)) (LL i) (LL j) = decide ((j : Int) ≤ (i : Int)) := by
        rw [LG_reach (by omega) i2 j2, decide_eq_decide]; omega
      have m1 : IntKind.i64.wrap ((i : Int) + 1) = i + 1 := by rw [IntKind.wrap_i64]; omega
      have m2 : IntKind.i64.wrap (1 + (r : Int) - 1) = r := by rw [IntKind.wrap_i64]; omega
      have m3 : min (i : Int) (j : Int) = ((min i j : Nat) : Int) := by omega
      have z1 : (0 : Int) ≤ ((min i j : Nat) : Int) := by omega
      have z2 : ((min i j : Nat) : Int) < (r : Int) + 1 := by omega
      have z3 : (0 : Int) ≤ (r : Int) := by omega
      have z4 : (r : Int) < (r : Int) + 1 := by omega
      have HD := Lib.hid hdep
      have HR := Lib.hid hrea
      clear hm4 hr4 hb4 hf4 gi gj gm gn g4' ho4 dG hI f4 hdep hrea hS3
      go_wp2_with fail
      simp only [List.append_eq, List.cons_append, List.nil_append]
      refine wp_region_M 87 88 [⟨18889465931478580854784, 4096, 0⟩, ⟨37778931862957161709568, 18889465931478580854784, 1⟩, ⟨75557863725914323419136, 37778931862957161709568, 2⟩, ⟨151115727451828646838272, 75557863725914323419136, 4⟩, ⟨302231454903657293676544, 151115727451828646842368, 8⟩, ⟨604462909807314587353088, 453347182355485940514816, 24⟩, ⟨1208925819614629174706176, 755578637259143234191360, 40⟩, ⟨2417851639229258349412352, 151115727451828646838784, 8⟩, ⟨4835703278458516698824704, 151115727451828646838274, 8⟩, ⟨9671406556917033397649408, 151115727451828646838276, 8⟩, ⟨19342813113834066795298816, 14658225562827378743312384, 776⟩, ⟨38685626227668133590597632, 21911780480515153791549440, 1160⟩, ⟨77371252455336267181195264, 38836741955119962237435904, 2056⟩, ⟨154742504910672534362390528, 78731294002402725002739712, 4168⟩, ⟨309485009821345068724781056, 154893620638124363009228800, 8200⟩, ⟨618970019642690137449562112, 309485009821345068724781056, 16392⟩, ⟨1237940039285380274899124224, 618970019642690137449562240, 32768⟩, ⟨2475880078570760549798248448, 618970019642690137449562624, 32768⟩, ⟨4951760157141521099596496896, 618970019642690137449562114, 32768⟩, ⟨9903520314283042199192993792, 8046610255354971786844307456, 425984⟩, ⟨19807040628566084398385987584, 10522490333925732336642555904, 557056⟩, ⟨39614081257132168796771975168, 21663950687494154810734673920, 1146880⟩, ⟨79228162514264337593543950336, 618970019642690137449562114, 32768⟩, ⟨158456325028528675187087900672, 79847132533907027730993512448, 4227072⟩, ⟨316912650057057350374175801344, 198689376305303534121309437952, 10518528⟩, ⟨633825300114114700748351602688, 317531620076700040511625363456, 16809984⟩, ⟨1267650600228229401496703205376, 633825300114114700748351602688, 35651584⟩, ⟨2535301200456458802993406410752, 1267650600228229401496703205504, 67108864⟩, ⟨5070602400912917605986812821504, 1267650600228229401496703205888, 67108864⟩, ⟨10141204801825835211973625643008, 1267650600228229401496703205378, 67108864⟩, ⟨20282409603651670423947251286016, 16479457802966982219457141669888, 872415232⟩, ⟨40564819207303340847894502572032, 21550060203879899825443954491392, 1140850688⟩, ⟨81129638414606681695789005144064, 41832469807531570249391205777408, 2214592512⟩, ⟨162259276829213363391578010288128, 84932590215291369900279114760192, 4496293888⟩, ⟨324518553658426726783156020576256, 163526927429441592793074713493504, 8657043456⟩, ⟨649037107316853453566312041152512, 1267650600228229401496703205378, 67108864⟩, ⟨1298074214633706907132624082305024, 650304757917081682967808744357888, 34426847232⟩, ⟨2596148429267413814265248164610048, 1623860418892361863317276806086656, 85966454784⟩, ⟨5192296858534827628530496329220096, 2597416079867642043666744867815424, 137506062336⟩, ⟨10384593717069655257060992658440192, 5192296858534827628530496329220096, 283467841536⟩, ⟨20769187434139310514121985316880384, 10384593717069655257060992658440320, 549755813888⟩, ⟨41538374868278621028243970633760768, 10384593717069655257060992658440704, 549755813888⟩, ⟨83076749736557242056487941267521536, 10384593717069655257060992658440194, 549755813888⟩, ⟨166153499473114484112975882535043072, 134999718321905518341792904559722496, 7146825580544⟩, ⟨332306998946228968225951765070086144, 176538093190184139370036875193483264, 9345848836096⟩, ⟨664613997892457936451903530140172288, 10384593717069655257060992658440704, 549755813888⟩, ⟨1329227995784915872903807060280344576, 10384593717069655257060992658440196, 549755813888⟩, ⟨2658455991569831745807614120560689152, 2004226587394443464612771583078957056, 106102872080384⟩, ⟨5316911983139663491615228241121378304, 2668840585286901401064675113219129344, 141287244169216⟩, ⟨10633823966279326983230456482242756608, 5680372763237101425612362984166785024, 300716430196736⟩, ⟨21267647932558653966460912964485513216, 10384593717069655257060992658440196, 549755813888⟩, ⟨42535295865117307932921825928971026432, 10384593717069655257060992658440194, 549755813888⟩, ⟨85070591730234615865843651857942052864, 63813328391393031554639799886114979840, 3378249476341760⟩, ⟨170141183460469231731687303715884105728, 95714800290231012504331169332843249664, 5067099336605696⟩, ⟨340282366920938463463374607431768211456, 170151568054186301386944364708542545920, 9007749010554880⟩, ⟨680564733841876926926749214863536422912, 340282366920938463463374607431768211456, 18577348462903296⟩, ⟨1361129467683753853853498429727072845824, 680564733841876926926749214863536423040, 36028797018963968⟩, ⟨2722258935367507707706996859454145691648, 2041694201525630780780247644590609268736, 108086391056891904⟩, ⟨5444517870735015415413993718908291383296, 3402823669209384634633746074317682114560, 180143985094819840⟩, ⟨10889035741470030830827987437816582766592, 6125082604576892342340742933771827806208, 324259173170675712⟩, ⟨21778071482940061661655974875633165533184, 11569600475311907757754736652680119189504, 612489549322387456⟩, ⟨43556142965880123323311949751266331066368, 21778071482940061661655974875633165533184, 1297036692682702848⟩, ⟨87112285931760246646623899502532662132736, 43556142965880123323311949751266331066496, 2305843009213693952⟩, ⟨174224571863520493293247799005065324265472, 130668428897640369969935849253798993199104, 6917529027641081856⟩, ⟨348449143727040986586495598010130648530944, 217780714829400616616559748756331655331840, 11529215046068469760⟩, ⟨696898287454081973172991196020261297061888, 392005286692921109909807547761396979597312, 20752587082923245568⟩, ⟨1393796574908163946345982392040522594123776, 43556142965880123323311949751266331066880, 2305843009213693952⟩, ⟨2787593149816327892691964784081045188247552, 43556142965880123323311949751266331066369, 2305843009213693952⟩, ⟨5575186299632655785383929568162090376495104, 2831149292782208016015276733832311519313920, 149879795598890106880⟩, ⟨11150372599265311570767859136324180752990208, 7012539017506699855053223909953879301685248, 371240724483404726272⟩, ⟨22300745198530623141535718272648361505980416, 11193928742231191694091171086075447084056576, 592601653367919345664⟩, ⟨44601490397061246283071436545296723011960832, 23041199628950585238032021418419889134108672, 1219790951874044100608⟩, ⟨89202980794122492566142873090593446023921664, 44645046540027126406394748495047989343027200, 2363489084444036300800⟩, ⟨178405961588244985132285746181186892047843328, 89202980794122492566142873090593446023921664, 4731589854906499989504⟩, ⟨356811923176489970264571492362373784095686656, 178405961588244985132285746181186892047843456, 9444732965739290427392⟩, ⟨713623846352979940529142984724747568191373312, 178405961588244985132285746181186892047843328, 9444732965739290427392⟩, ⟨1427247692705959881058285969449495136382746624, 178405961588244985132285746181186892047843328, 9444732965739290427392⟩, ⟨2854495385411919762116571938898990272765493248, 1605653654294204866190571715630682028430589952, 85002596691653613846528⟩, ⟨5708990770823839524233143877797980545530986496, 4103337116529634658042572162167298517100396544, 217228858212003679830016⟩, ⟨11417981541647679048466287755595961091061972992, 5887396732412084509365429623979167437578829824, 311676187869396584103936⟩, ⟨22835963083295358096932575511191922182123945984, 11596387503235924033598573501777147983109816320, 613907642773053877780480⟩, ⟨45671926166590716193865151022383844364247891968, 22835963083295358096932575511191922182123945984, 1511157274518286468382720⟩, ⟨91343852333181432387730302044767688728495783936, 45671926166590716193865151022383844364247892096, 2417851639229258349412352⟩, ⟨182687704666362864775460604089535377456991567872, 45671926166590716193865151022383844364247891968, 2417851639229258349412352⟩, ⟨365375409332725729550921208179070754913983135744, 319703483166135013357056057156686910549735243776, 16924961474604808445886464⟩, ⟨730750818665451459101842416358141509827966271488, 411047335499316445744786359201454599278231027712, 21760664753063325144711168⟩, ⟨1461501637330902918203684832716283019655932542976, 776422744832042175295707567380525354192214163456, 41103477866897391940009984⟩, ⟨64, 1461501637330902918203684832716283019655932542976, 154742504910672534362390527⟩] [(true, 0), (true, 1), (true, 2), (true, 3), (true, 4), (true, 7), (true, 8), (true, 9), (true, 5), (true, 10), (true, 6), (true, 11), (true, 12), (true, 13), (true, 14), (true, 15), (true, 16), (true, 17), (true, 18), (true, 22), (true, 19), (true, 23), (true, 20), (false, 21), (true, 24), (true, 25), (true, 26), (true, 27), (true, 28), (true, 29), (true, 35), (true, 30), (true, 36), (true, 31), (false, 32), (false, 33), (true, 34), (true, 37), (true, 38), (true, 39), (true, 40), (true, 41), (true, 42), (true, 45), (true, 46), (true, 50), (true, 51), (true, 43), (true, 47), (true, 52), (true, 44), (true, 48), (false, 49), (true, 53), (true, 54), (true, 55), (true, 56), (false, 57), (true, 58), (true, 59), (true, 60), (true, 61), (true, 62), (true, 66), (true, 67), (true, 68), (true, 69), (true, 70), (false, 63), (true, 64), (false, 65), (true, 71), (true, 72), (true, 73), (true, 74), (true, 75), (true, 76), (false, 77), (false, 78), (true, 79), (true, 80), (true, 81), (true, 82), (true, 83), (false, 84), (true, 85), (true, 86)] (fun w' => rdI w' g (off + i * 32) = some (LL i) ∧ rdI w' g (off + j * 32) = some (LL j) ∧ rdI w' g (off + min i j * 32) = some (LL (min i j)) ∧ rdI w' g (off + r * 32) = some (LL r) ∧ rdI w' g4 o4 = some (LL (min i j))) (by kernel_rfl) rfl (by kernel_rfl) (by kernel_rfl) (by kernel_rfl) F0 (fun hA hF => ?_)
      clear F0
      have fu0 : Fr noB v4.drew v4.drew := Fr.refl _ _
      refine wpAnyS_take (v := ?_) hA rfl (fun _ _ _ h => h) (Or.inl ⟨by rfl, ?_⟩) hF (fun hA => ?_)
      rotate_left
      · intro wS hSw; (try dsimp only at hSw); obtain ⟨s1, s2, s3, s4, s5⟩ := hSw; first | (apply Eq.trans; apply ex_ld_id; exact rfl; exact rfl; assumption; with_reducible rfl) | (apply Eq.trans; apply ex_bld1_at; exact rfl; exact rfl; decide; with_reducible rfl) | (apply Eq.trans; apply ex_bld0_at; exact rfl; with_reducible rfl) | (go_simp; try with_reducible rfl)
      try simp only [List.getElem_toArray, List.getElem_cons_zero, List.getElem_cons_succ, Act.put, List.setIfInBounds_toArray, List.set_cons_zero, List.set_cons_succ]
      refine wpAnyS_take (v := ?_) hA rfl (fun _ _ _ h => h) (Or.inl ⟨by rfl, ?_⟩) hF (fun hA => ?_)
      rotate_left
      · intro wS hSw; (try dsimp only at hSw); obtain ⟨s1, s2, s3, s4, s5⟩ := hSw; first | (apply Eq.trans; apply ex_ld_id; exact rfl; exact rfl; assumption; with_reducible rfl) | (apply Eq.trans; apply ex_bld1_at; exact rfl; exact rfl; decide; with_reducible rfl) | (apply Eq.trans; apply ex_bld0_at; exact rfl; with_reducible rfl) | (go_simp; try with_reducible rfl)
      try simp only [List.getElem_toArray, List.getElem_cons_zero, List.getElem_cons_succ, Act.put, List.setIfInBounds_toArray, List.set_cons_zero, List.set_cons_succ]
      refine wpAnyS_take (v := ?_) hA rfl (fun _ _ _ h => h) (Or.inl ⟨by rfl, ?_⟩) hF (fun hA => ?_)
      rotate_left
      · intro wS hSw; (try dsimp only at hSw); obtain ⟨s1, s2, s3, s4, s5⟩ := hSw; first | (apply Eq.trans; apply ex_ld_id; exact rfl; exact rfl; assumption; with_reducible rfl) | (apply Eq.trans; apply ex_bld1_at; exact rfl; exact rfl; decide; with_reducible rfl) | (apply Eq.trans; apply ex_bld0_at; exact rfl; with_reducible rfl) | (go_simp; try with_reducible rfl)
      try simp only [List.getElem_toArray, List.getElem_cons_zero, List.getElem_cons_succ, Act.put, List.setIfInBounds_toArray, List.set_cons_zero, List.set_cons_succ]
      refine wpAnyS_take (v := ?_) hA rfl (fun _ _ _ h => h) (Or.inl ⟨by rfl, ?_⟩) hF (fun hA => ?_)
      rotate_left
      · intro wS hSw; (try dsimp only at hSw); obtain ⟨s1, s2, s3, s4, s5⟩ := hSw; first | (apply Eq.trans; apply ex_ld_id; exact rfl; exact rfl; assumption; with_reducible rfl) | (apply Eq.trans; apply ex_bld1_at; exact rfl; exact rfl; decide; with_reducible rfl) | (apply Eq.trans; apply ex_bld0_at; exact rfl; with_reducible rfl) | (go_simp; try with_reducible rfl)
      try simp only [List.getElem_toArray, List.getElem_cons_zero, List.getElem_cons_succ, Act.put, List.setIfInBounds_toArray, List.set_cons_zero, List.set_cons_succ]
      refine wpAnyS_take (v := ?_) hA rfl (fun _ _ _ h => h) (Or.inl ⟨by rfl, ?_⟩) hF (fun hA => ?_)
      rotate_left
      · intro wS hSw; (try dsimp only at hSw); obtain ⟨s1, s2, s3, s4, s5⟩ := hSw; first | (apply Eq.trans; apply ex_ld_id; exact rfl; exact rfl; assumption; with_reducible rfl) | (apply Eq.trans; apply ex_bld1_at; exact rfl; exact rfl; decide; with_reducible rfl) | (apply Eq.trans; apply ex_bld0_at; exact rfl; with_reducible rfl) | (go_simp; try with_reducible rfl)
      try simp only [List.getElem_toArray, List.getElem_cons_zero, List.getElem_cons_succ, Act.put, List.setIfInBounds_toArray, List.set_cons_zero, List.set_cons_succ]
      refine wpAnyS_take (v := ?_) hA rfl (fun _ _ _ h => h) (Or.inl ⟨by rfl, ?_⟩) hF (fun hA => ?_)
      rotate_left
      · intro wS hSw; (try dsimp only at hSw); obtain ⟨s1, s2, s3, s4, s5⟩ := hSw; first | (apply Eq.trans; apply ex_ld_id; exact rfl; exact rfl; assumption; with_reducible rfl) | (apply Eq.trans; apply ex_bld1_at; exact rfl; exact rfl; decide; with_reducible rfl) | (apply Eq.trans; apply ex_bld0_at; exact rfl; with_reducible rfl) | (go_simp; try with_reducible rfl)
      try simp only [List.getElem_toArray, List.getElem_cons_zero, List.getElem_cons_succ, Act.put, List.setIfInBounds_toArray, List.set_cons_zero, List.set_cons_succ]
      refine wpAnyS_take (v := ?_) hA rfl (fun _ _ _ h => h) (Or.inl ⟨by rfl, ?_⟩) hF (fun hA => ?_)
      rotate_left
      · intro wS hSw; (try dsimp only at hSw); obtain ⟨s1, s2, s3, s4, s5⟩ := hSw; first | (apply Eq.trans; apply ex_ld_id; exact rfl; exact rfl; assumption; with_reducible rfl) | (apply Eq.trans; apply ex_bld1_at; exact rfl; exact rfl; decide; with_reducible rfl) | (apply Eq.trans; apply ex_bld0_at; exact rfl; with_reducible rfl) | (go_simp; try with_reducible rfl)
      try simp only [List.getElem_toArray, List.getElem_cons_zero, List.getElem_cons_succ, Act.put, List.setIfInBounds_toArray, List.set_cons_zero, List.set_cons_succ]
      refine wpAnyS_take (v := ?_) hA rfl (fun _ _ _ h => h) (Or.inl ⟨by rfl, ?_⟩) hF (fun hA => ?_)
      rotate_left
      · intro wS hSw; (try dsimp only at hSw); obtain ⟨s1, s2, s3, s4, s5⟩ := hSw; first | (apply Eq.trans; apply ex_ld_id; exact rfl; exact rfl; assumption; with_reducible rfl) | (apply Eq.trans; apply ex_bld1_at; exact rfl; exact rfl; decide; with_reducible rfl) | (apply Eq.trans; apply ex_bld0_at; exact rfl; with_reducible rfl) | (go_simp; try with_reducible rfl)
      try simp only [List.getElem_toArray, List.getElem_cons_zero, List.getElem_cons_succ, Act.put, List.setIfInBounds_toArray, List.set_cons_zero, List.set_cons_succ]
      refine wpAnyS_take (v := ?_) hA rfl (fun _ _ _ h => h) (Or.inl ⟨by rfl, ?_⟩) hF (fun hA => ?_)
      rotate_left
      · intro wS hSw; (try dsimp only at hSw); obtain ⟨s1, s2, s3, s4, s5⟩ := hSw; first | (apply Eq.trans; apply ex_ld_id; exact rfl; exact rfl; assumption; with_reducible rfl) | (apply Eq.trans; apply ex_bld1_at; exact rfl; exact rfl; decide; with_reducible rfl) | (apply Eq.trans; apply ex_bld0_at; exact rfl; with_reducible rfl) | (go_simp; try with_reducible rfl)
      try simp only [List.getElem_toArray, List.getElem_cons_zero, List.getElem_cons_succ, Act.put, List.setIfInBounds_toArray, List.set_cons_zero, List.set_cons_succ]
      refine wpAnyS_take (v := ?_) hA rfl (fun _ _ _ h => h) (Or.inl ⟨by rfl, ?_⟩) hF (fun hA => ?_)
      rotate_left
      · intro wS hSw; (try dsimp only at hSw); obtain ⟨s1, s2, s3, s4, s5⟩ := hSw; first | (apply Eq.trans; apply ex_ld_id; exact rfl; exact rfl; assumption; with_reducible rfl) | (apply Eq.trans; apply ex_bld1_at; exact rfl; exact rfl; decide; with_reducible rfl) | (apply Eq.trans; apply ex_bld0_at; exact rfl; with_reducible rfl) | (go_simp; try with_reducible rfl)
      try simp only [List.getElem_toArray, List.getElem_cons_zero, List.getElem_cons_succ, Act.put, List.setIfInBounds_toArray, List.set_cons_zero, List.set_cons_succ]
      refine wpAnyS_take (v := ?_) hA rfl (fun _ _ _ h => h) (Or.inl ⟨by rfl, ?_⟩) hF (fun hA => ?_)
      rotate_left
      · intro wS hSw; (try dsimp only at hSw); obtain ⟨s1, s2, s3, s4, s5⟩ := hSw; first | (apply Eq.trans; apply ex_ld_id; exact rfl; exact rfl; assumption; with_reducible rfl) | (apply Eq.trans; apply ex_bld1_at; exact rfl; exact rfl; decide; with_reducible rfl) | (apply Eq.trans; apply ex_bld0_at; exact rfl; with_reducible rfl) | (go_simp; try with_reducible rfl)
      try simp only [List.getElem_toArray, List.getElem_cons_zero, List.getElem_cons_succ, Act.put, List.setIfInBounds_toArray, List.set_cons_zero, List.set_cons_succ]
      refine wpAnyS_take (v := ?_) hA rfl (fun _ _ _ h => h) (Or.inl ⟨by rfl, ?_⟩) hF (fun hA => ?_)
      rotate_left
      · intro wS hSw; (try dsimp only at hSw); obtain ⟨s1, s2, s3, s4, s5⟩ := hSw; first | (apply Eq.trans; apply ex_ld_id; exact rfl; exact rfl; assumption; with_reducible rfl) | (apply Eq.trans; apply ex_bld1_at; exact rfl; exact rfl; decide; with_reducible rfl) | (apply Eq.trans; apply ex_bld0_at; exact rfl; with_reducible rfl) | (go_simp; try with_reducible rfl)
      try simp only [List.getElem_toArray, List.getElem_cons_zero, List.getElem_cons_succ, Act.put, List.setIfInBounds_toArray, List.set_cons_zero, List.set_cons_succ]
      refine wpAnyS_take (v := ?_) hA rfl (fun _ _ _ h => h) (Or.inl ⟨by rfl, ?_⟩) hF (fun hA => ?_)
      rotate_left
      · intro wS hSw; (try dsimp only at hSw); obtain ⟨s1, s2, s3, s4, s5⟩ := hSw; first | (apply Eq.trans; apply ex_ld_id; exact rfl; exact rfl; assumption; with_reducible rfl) | (apply Eq.trans; apply ex_bld1_at; exact rfl; exact rfl; decide; with_reducible rfl) | (apply Eq.trans; apply ex_bld0_at; exact rfl; with_reducible rfl) | (go_simp; try with_reducible rfl)
      try simp only [List.getElem_toArray, List.getElem_cons_zero, List.getElem_cons_succ, Act.put, List.setIfInBounds_toArray, List.set_cons_zero, List.set_cons_succ]
      refine wpAnyS_take (v := ?_) hA rfl (fun _ _ _ h => h) (Or.inl ⟨by rfl, ?_⟩) hF (fun hA => ?_)
      rotate_left
      · intro wS hSw; (try dsimp only at hSw); obtain ⟨s1, s2, s3, s4, s5⟩ := hSw; first | (apply Eq.trans; apply ex_ld_id; exact rfl; exact rfl; assumption; with_reducible rfl) | (apply Eq.trans; apply ex_bld1_at; exact rfl; exact rfl; decide; with_reducible rfl) | (apply Eq.trans; apply ex_bld0_at; exact rfl; with_reducible rfl) | (go_simp; try with_reducible rfl)
      try simp only [List.getElem_toArray, List.getElem_cons_zero, List.getElem_cons_succ, Act.put, List.setIfInBounds_toArray, List.set_cons_zero, List.set_cons_succ]
      refine wpAnyS_take (v := ?_) hA rfl (fun _ _ _ h => h) (Or.inl ⟨by rfl, ?_⟩) hF (fun hA => ?_)
      rotate_left
      · intro wS hSw; (try dsimp only at hSw); obtain ⟨s1, s2, s3, s4, s5⟩ := hSw; first | (apply Eq.trans; apply ex_ld_id; exact rfl; exact rfl; assumption; with_reducible rfl) | (apply Eq.trans; apply ex_bld1_at; exact rfl; exact rfl; decide; with_reducible rfl) | (apply Eq.trans; apply ex_bld0_at; exact rfl; with_reducible rfl) | (go_simp; try with_reducible rfl)
      try simp only [List.getElem_toArray, List.getElem_cons_zero, List.getElem_cons_succ, Act.put, List.setIfInBounds_toArray, List.set_cons_zero, List.set_cons_succ]
      refine wpAnyS_take (v := ?_) hA rfl (fun _ _ _ h => h) (Or.inl ⟨by rfl, ?_⟩) hF (fun hA => ?_)
      rotate_left
      · intro wS hSw; (try dsimp only at hSw); obtain ⟨s1, s2, s3, s4, s5⟩ := hSw; first | (apply Eq.trans; apply ex_ld_id; exact rfl; exact rfl; assumption; with_reducible rfl) | (apply Eq.trans; apply ex_bld1_at; exact rfl; exact rfl; decide; with_reducible rfl) | (apply Eq.trans; apply ex_bld0_at; exact rfl; with_reducible rfl) | (go_simp; try with_reducible rfl)
      try simp only [List.getElem_toArray, List.getElem_cons_zero, List.getElem_cons_succ, Act.put, List.setIfInBounds_toArray, List.set_cons_zero, List.set_cons_succ]
      refine wpAnyS_take (v := ?_) hA rfl (fun _ _ _ h => h) (Or.inl ⟨by rfl, ?_⟩) hF (fun hA => ?_)
      rotate_left
      · intro wS hSw; (try dsimp only at hSw); obtain ⟨s1, s2, s3, s4, s5⟩ := hSw; first | (apply Eq.trans; apply ex_ld_id; exact rfl; exact rfl; assumption; with_reducible rfl) | (apply Eq.trans; apply ex_bld1_at; exact rfl; exact rfl; decide; with_reducible rfl) | (apply Eq.trans; apply ex_bld0_at; exact rfl; with_reducible rfl) | (go_simp; try with_reducible rfl)
      try simp only [List.getElem_toArray, List.getElem_cons_zero, List.getElem_cons_succ, Act.put, List.setIfInBounds_toArray, List.set_cons_zero, List.set_cons_succ]
      refine wpAnyS_take (v := ?_) hA rfl (fun _ _ _ h => h) (Or.inl ⟨by rfl, ?_⟩) hF (fun hA => ?_)
      rotate_left
      · intro wS hSw; (try dsimp only at hSw); obtain ⟨s1, s2, s3, s4, s5⟩ := hSw; first | (apply Eq.trans; apply ex_ld_id; exact rfl; exact rfl; assumption; with_reducible rfl) | (apply Eq.trans; apply ex_bld1_at; exact rfl; exact rfl; decide; with_reducible rfl) | (apply Eq.trans; apply ex_bld0_at; exact rfl; with_reducible rfl) | (go_simp; try with_reducible rfl)
      try simp only [List.getElem_toArray, List.getElem_cons_zero, List.getElem_cons_succ, Act.put, List.setIfInBounds_toArray, List.set_cons_zero, List.set_cons_succ]
      refine wpAnyS_take (v := ?_) hA rfl (fun _ _ _ h => h) (Or.inl ⟨by rfl, ?_⟩) hF (fun hA => ?_)
      rotate_left
      · intro wS hSw; (try dsimp only at hSw); obtain ⟨s1, s2, s3, s4, s5⟩ := hSw; first | (apply Eq.trans; apply ex_ld_id; exact rfl; exact rfl; assumption; with_reducible rfl) | (apply Eq.trans; apply ex_bld1_at; exact rfl; exact rfl; decide; with_reducible rfl) | (apply Eq.trans; apply ex_bld0_at; exact rfl; with_reducible rfl) | (go_simp; try with_reducible rfl)
      try simp only [List.getElem_toArray, List.getElem_cons_zero, List.getElem_cons_succ, Act.put, List.setIfInBounds_toArray, List.set_cons_zero, List.set_cons_succ]
      refine wpAnyS_take (v := ?_) hA rfl (fun _ _ _ h => h) (Or.inl ⟨by rfl, ?_⟩) hF (fun hA => ?_)
      rotate_left
      · intro wS hSw; (try dsimp only at hSw); obtain ⟨s1, s2, s3, s4, s5⟩ := hSw; first | (apply Eq.trans; apply ex_ld_id; exact rfl; exact rfl; assumption; with_reducible rfl) | (apply Eq.trans; apply ex_bld1_at; exact rfl; exact rfl; decide; with_reducible rfl) | (apply Eq.trans; apply ex_bld0_at; exact rfl; with_reducible rfl) | (go_simp; try with_reducible rfl)
      try simp only [List.getElem_toArray, List.getElem_cons_zero, List.getElem_cons_succ, Act.put, List.setIfInBounds_toArray, List.set_cons_zero, List.set_cons_succ]
      refine wpAnyS_take (v := ?_) hA rfl (fun _ _ _ h => h) (Or.inl ⟨by rfl, ?_⟩) hF (fun hA => ?_)
      rotate_left
      · intro wS hSw; (try dsimp only at hSw); obtain ⟨s1, s2, s3, s4, s5⟩ := hSw; first | (apply Eq.trans; apply ex_ld_id; exact rfl; exact rfl; assumption; with_reducible rfl) | (apply Eq.trans; apply ex_bld1_at; exact rfl; exact rfl; decide; with_reducible rfl) | (apply Eq.trans; apply ex_bld0_at; exact rfl; with_reducible rfl) | (go_simp; try with_reducible rfl)
      try simp only [List.getElem_toArray, List.getElem_cons_zero, List.getElem_cons_succ, Act.put, List.setIfInBounds_toArray, List.set_cons_zero, List.set_cons_succ]
      refine wpAnyS_take (v := ?_) hA rfl (fun _ _ _ h => h) (Or.inl ⟨by rfl, ?_⟩) hF (fun hA => ?_)
      rotate_left
      · intro wS hSw; (try dsimp only at hSw); obtain ⟨s1, s2, s3, s4, s5⟩ := hSw; first | (apply Eq.trans; apply ex_ld_id; exact rfl; exact rfl; assumption; with_reducible rfl) | (apply Eq.trans; apply ex_bld1_at; exact rfl; exact rfl; decide; with_reducible rfl) | (apply Eq.trans; apply ex_bld0_at; exact rfl; with_reducible rfl) | (go_simp; try with_reducible rfl)
      try simp only [List.getElem_toArray, List.getElem_cons_zero, List.getElem_cons_succ, Act.put, List.setIfInBounds_toArray, List.set_cons_zero, List.set_cons_succ]
      refine wpAnyS_take (v := ?_) hA rfl (fun _ _ _ h => h) (Or.inl ⟨by rfl, ?_⟩) hF (fun hA => ?_)
      rotate_left
      · intro wS hSw; (try dsimp only at hSw); obtain ⟨s1, s2, s3, s4, s5⟩ := hSw; first | (apply Eq.trans; apply ex_ld_id; exact rfl; exact rfl; assumption; with_reducible rfl) | (apply Eq.trans; apply ex_bld1_at; exact rfl; exact rfl; decide; with_reducible rfl) | (apply Eq.trans; apply ex_bld0_at; exact rfl; with_reducible rfl) | (go_simp; try with_reducible rfl)
      try simp only [List.getElem_toArray, List.getElem_cons_zero, List.getElem_cons_succ, Act.put, List.setIfInBounds_toArray, List.set_cons_zero, List.set_cons_succ]
      refine wpAnyS_one hA rfl (fun K' hK => ?_)
      rw [if_pos (by rfl)]
      go_simp
      go_at_call 18
      refine (depth_any _ D Fe (LG (r + 1)) ((dJ.fr0 fu0)) (LL i)).mono ?_
      rintro e u1 ⟨rfl, hu1⟩
      have fu1 := fu0.step0 hu1
      replace hF := keep _ _ hu1.any hF
      refine hK.out _ _ hF (fun hA => ?_)
      clear hK K'
      as_aux_lemma =>
      rw [HD.out]
      refine wpAnyS_take (v := ?_) hA rfl (fun _ _ _ h => h) (Or.inl ⟨by rfl, ?_⟩) hF (fun hA => ?_)
      rotate_left
      · intro wS hSw; (try dsimp only at hSw); obtain ⟨s1, s2, s3, s4, s5⟩ := hSw; first | (apply Eq.trans; apply ex_ld_id; exact rfl; exact rfl; assumption; with_reducible rfl) | (apply Eq.trans; apply ex_bld1_at; exact rfl; exact rfl; decide; with_reducible rfl) | (apply Eq.trans; apply ex_bld0_at; exact rfl; with_reducible rfl) | (go_simp; try with_reducible rfl)
      try simp only [List.getElem_toArray, List.getElem_cons_zero, List.getElem_cons_succ, Act.put, List.setIfInBounds_toArray, List.set_cons_zero, List.set_cons_succ]
      refine wpAnyS_take (v := ?_) hA rfl (fun _ _ _ h => h) (Or.inl ⟨by rfl, ?_⟩) hF (fun hA => ?_)
      rotate_left
      · intro wS hSw; (try dsimp only at hSw); obtain ⟨s1, s2, s3, s4, s5⟩ := hSw; first | (apply Eq.trans; apply ex_ld_id; exact rfl; exact rfl; assumption; with_reducible rfl) | (apply Eq.trans; apply ex_bld1_at; exact rfl; exact rfl; decide; with_reducible rfl) | (apply Eq.trans; apply ex_bld0_at; exact rfl; with_reducible rfl) | (go_simp; try with_reducible rfl)
      try simp only [List.getElem_toArray, List.getElem_cons_zero, List.getElem_cons_succ, Act.put, List.setIfInBounds_toArray, List.set_cons_zero, List.set_cons_succ]
      refine wpAnyS_take (v := ?_) hA rfl (fun _ _ _ h => h) (Or.inl ⟨by rfl, ?_⟩) hF (fun hA => ?_)
      rotate_left
      · intro wS hSw; (try dsimp only at hSw); obtain ⟨s1, s2, s3, s4, s5⟩ := hSw; first | (apply Eq.trans; apply ex_ld_id; exact rfl; exact rfl; assumption; with_reducible rfl) | (apply Eq.trans; apply ex_bld1_at; exact rfl; exact rfl; decide; with_reducible rfl) | (apply Eq.trans; apply ex_bld0_at; exact rfl; with_reducible rfl) | (go_simp; try with_reducible rfl)
      try simp only [List.getElem_toArray, List.getElem_cons_zero, List.getElem_cons_succ, Act.put, List.setIfInBounds_toArray, List.set_cons_zero, List.set_cons_succ]
      refine wpAnyS_take (v := ?_) hA rfl (fun _ _ _ h => h) (Or.inl ⟨by rfl, ?_⟩) hF (fun hA => ?_)
      rotate_left
      · intro wS hSw; (try dsimp only at hSw); obtain ⟨s1, s2, s3, s4, s5⟩ := hSw; first | (apply Eq.trans; apply ex_ld_id; exact rfl; exact rfl; assumption; with_reducible rfl) | (apply Eq.trans; apply ex_bld1_at; exact rfl; exact rfl; decide; with_reducible rfl) | (apply Eq.trans; apply ex_bld0_at; exact rfl; with_reducible rfl) | (go_simp; try with_reducible rfl)
      try simp only [List.getElem_toArray, List.getElem_cons_zero, List.getElem_cons_succ, Act.put, List.setIfInBounds_toArray, List.set_cons_zero, List.set_cons_succ]
      refine wpAnyS_take (v := ?_) hA rfl (fun _ _ _ h => h) (Or.inl ⟨by rfl, ?_⟩) hF (fun hA => ?_)
      rotate_left
      · intro wS hSw; (try dsimp only at hSw); obtain ⟨s1, s2, s3, s4, s5⟩ := hSw; first | (apply Eq.trans; apply ex_ld_id; exact rfl; exact rfl; assumption; with_reducible rfl) | (apply Eq.trans; apply ex_bld1_at; exact rfl; exact rfl; decide; with_reducible rfl) | (apply Eq.trans; apply ex_bld0_at; exact rfl; with_reducible rfl) | (go_simp; try with_reducible rfl)
      try simp only [List.getElem_toArray, List.getElem_cons_zero, List.getElem_cons_succ, Act.put, List.setIfInBounds_toArray, List.set_cons_zero, List.set_cons_succ]
      refine wpAnyS_take (v := ?_) hA rfl (fun _ _ _ h => h) (Or.inl ⟨by rfl, ?_⟩) hF (fun hA => ?_)
      rotate_left
      · intro wS hSw; (try dsimp only at hSw); obtain ⟨s1, s2, s3, s4, s5⟩ := hSw; first | (apply Eq.trans; apply ex_ld_id; exact rfl; exact rfl; assumption; with_reducible rfl) | (apply Eq.trans; apply ex_bld1_at; exact rfl; exact rfl; decide; with_reducible rfl) | (apply Eq.trans; apply ex_bld0_at; exact rfl; with_reducible rfl) | (go_simp; try with_reducible rfl)
      try simp only [List.getElem_toArray, List.getElem_cons_zero, List.getElem_cons_succ, Act.put, List.setIfInBounds_toArray, List.set_cons_zero, List.set_cons_succ]
      refine wpAnyS_take (v := ?_) hA rfl (fun _ _ _ h => h) (Or.inl ⟨by rfl, ?_⟩) hF (fun hA => ?_)
      rotate_left
      · intro wS hSw; (try dsimp only at hSw); obtain ⟨s1, s2, s3, s4, s5⟩ := hSw; first | (apply Eq.trans; apply ex_ld_id; exact rfl; exact rfl; assumption; with_reducible rfl) | (apply Eq.trans; apply ex_bld1_at; exact rfl; exact rfl; decide; with_reducible rfl) | (apply Eq.trans; apply ex_bld0_at; exact rfl; with_reducible rfl) | (go_simp; try with_reducible rfl)
      try simp only [List.getElem_toArray, List.getElem_cons_zero, List.getElem_cons_succ, Act.put, List.setIfInBounds_toArray, List.set_cons_zero, List.set_cons_succ]
      refine wpAnyS_take (v := ?_) hA rfl (fun _ _ _ h => h) (Or.inl ⟨by rfl, ?_⟩) hF (fun hA => ?_)
      rotate_left
      · intro wS hSw; (try dsimp only at hSw); obtain ⟨s1, s2, s3, s4, s5⟩ := hSw; first | (apply Eq.trans; apply ex_ld_id; exact rfl; exact rfl; assumption; with_reducible rfl) | (apply Eq.trans; apply ex_bld1_at; exact rfl; exact rfl; decide; with_reducible rfl) | (apply Eq.trans; apply ex_bld0_at; exact rfl; with_reducible rfl) | (go_simp; try with_reducible rfl)
      try simp only [List.getElem_toArray, List.getElem_cons_zero, List.getElem_cons_succ, Act.put, List.setIfInBounds_toArray, List.set_cons_zero, List.set_cons_succ]
      refine wpAnyS_take (v := ?_) hA rfl (fun _ _ _ h => h) (Or.inl ⟨by rfl, ?_⟩) hF (fun hA => ?_)
      rotate_left
      · intro wS hSw; (try dsimp only at hSw); obtain ⟨s1, s2, s3, s4, s5⟩ := hSw; first | (apply Eq.trans; apply ex_ld_id; exact rfl; exact rfl; assumption; with_reducible rfl) | (apply Eq.trans; apply ex_bld1_at; exact rfl; exact rfl; decide; with_reducible rfl) | (apply Eq.trans; apply ex_bld0_at; exact rfl; with_reducible rfl) | (go_simp; try with_reducible rfl)
      try simp only [List.getElem_toArray, List.getElem_cons_zero, List.getElem_cons_succ, Act.put, List.setIfInBounds_toArray, List.set_cons_zero, List.set_cons_succ]
      refine wpAnyS_take (v := ?_) hA rfl (fun _ _ _ h => h) (Or.inl ⟨by rfl, ?_⟩) hF (fun hA => ?_)
      rotate_left
      · intro wS hSw; (try dsimp only at hSw); obtain ⟨s1, s2, s3, s4, s5⟩ := hSw; first | (apply Eq.trans; apply ex_ld_id; exact rfl; exact rfl; assumption; with_reducible rfl) | (apply Eq.trans; apply ex_bld1_at; exact rfl; exact rfl; decide; with_reducible rfl) | (apply Eq.trans; apply ex_bld0_at; exact rfl; with_reducible rfl) | (go_simp; try with_reducible rfl)
      try simp only [List.getElem_toArray, List.getElem_cons_zero, List.getElem_cons_succ, Act.put, List.setIfInBounds_toArray, List.set_cons_zero, List.set_cons_succ]
      refine wpAnyS_one hA rfl (fun K' hK => ?_)
      rw [if_pos (by rfl)]
      refine step_runW _ _ (ex_bs1_at (x := LL i) rfl rfl) ?_
      have hu2 : Fr noB u1 (u1.alloc (rowo [LL i])) := (Fr.refl noB u1).alloc _
      have fu2 := fu1.step0 hu2
      have sl2 := sl_new u1 [LL i]
      replace hF := keep _ _ hu2.any hF
      refine hK.out _ _ hF (fun hA => ?_)
      clear hK K'
      as_aux_lemma =>
      refine wpAnyS_one hA rfl (fun K' hK => ?_)
      rw [if_pos (by rfl)]
      go_simp
      go_at_call 20
      refine (ancestors_any _ D Fe (LG (r + 1)) (dJ.fr0 fu2) _ _ _ [LL i] rfl sl2 (by simp)).mono ?_
      rintro e u3 ⟨l3, ⟨A3, c3, rfl, ho3, hu3⟩, hr3, hm3, hb3⟩
      have fu3 := fu2.step0 hu3
      have hl3 : ((l3.length : Nat) : Int) = (i : Int) + 1 := by rw [LG_ancs (by omega) i2 (swoD _) hr3 hm3]; omega
      replace hF := keep _ _ hu3.any hF
      refine hK.out _ _ hF (fun hA => ?_)
      clear hK K'
      as_aux_lemma =>
      clear hm3 hr3 hb3 ho3 sl2
      refine wpAnyS_take (v := ?_) hA rfl (fun _ _ _ h => h) (Or.inl ⟨by rfl, ?_⟩) hF (fun hA => ?_)
      rotate_left
      · intro wS hSw; (try dsimp only at hSw); obtain ⟨s1, s2, s3, s4, s5⟩ := hSw; first | (apply Eq.trans; apply ex_ld_id; exact rfl; exact rfl; assumption; with_reducible rfl) | (apply Eq.trans; apply ex_bld1_at; exact rfl; exact rfl; decide; with_reducible rfl) | (apply Eq.trans; apply ex_bld0_at; exact rfl; with_reducible rfl) | (go_simp; try with_reducible rfl)
      try simp only [List.getElem_toArray, List.getElem_cons_zero, List.getElem_cons_succ, Act.put, List.setIfInBounds_toArray, List.set_cons_zero, List.set_cons_succ]
      refine wpAnyS_take (v := ?_) hA rfl (fun _ _ _ h => h) (Or.inl ⟨by rfl, ?_⟩) hF (fun hA => ?_)
      rotate_left
      · intro wS hSw; (try dsimp only at hSw); obtain ⟨s1, s2, s3, s4, s5⟩ := hSw; first | (apply Eq.trans; apply ex_ld_id; exact rfl; exact rfl; assumption; with_reducible rfl) | (apply Eq.trans; apply ex_bld1_at; exact rfl; exact rfl; decide; with_reducible rfl) | (apply Eq.trans; apply ex_bld0_at; exact rfl; with_reducible rfl) | (go_simp; try with_reducible rfl)
      try simp only [List.getElem_toArray, List.getElem_cons_zero, List.getElem_cons_succ, Act.put, List.setIfInBounds_toArray, List.set_cons_zero, List.set_cons_succ]
      refine wpAnyS_take (v := ?_) hA rfl (fun _ _ _ h => h) (Or.inl ⟨by rfl, ?_⟩) hF (fun hA => ?_)
      rotate_left
      · intro wS hSw; (try dsimp only at hSw); obtain ⟨s1, s2, s3, s4, s5⟩ := hSw; first | (apply Eq.trans; apply ex_ld_id; exact rfl; exact rfl; assumption; with_reducible rfl) | (apply Eq.trans; apply ex_bld1_at; exact rfl; exact rfl; decide; with_reducible rfl) | (apply Eq.trans; apply ex_bld0_at; exact rfl; with_reducible rfl) | (go_simp; try with_reducible rfl)
      try simp only [List.getElem_toArray, List.getElem_cons_zero, List.getElem_cons_succ, Act.put, List.setIfInBounds_toArray, List.set_cons_zero, List.set_cons_succ]
      refine wpAnyS_take (v := ?_) hA rfl (fun _ _ _ h => h) (Or.inl ⟨by rfl, ?_⟩) hF (fun hA => ?_)
      rotate_left
      · intro wS hSw; (try dsimp only at hSw); obtain ⟨s1, s2, s3, s4, s5⟩ := hSw; first | (apply Eq.trans; apply ex_ld_id; exact rfl; exact rfl; assumption; with_reducible rfl) | (apply Eq.trans; apply ex_bld1_at; exact rfl; exact rfl; decide; with_reducible rfl) | (apply Eq.trans; apply ex_bld0_at; exact rfl; with_reducible rfl) | (go_simp; try with_reducible rfl)
      try simp only [List.getElem_toArray, List.getElem_cons_zero, List.getElem_cons_succ, Act.put, List.setIfInBounds_toArray, List.set_cons_zero, List.set_cons_succ]
      refine wpAnyS_take (v := ?_) hA rfl (fun _ _ _ h => h) (Or.inl ⟨by rfl, ?_⟩) hF (fun hA => ?_)
      rotate_left
      · intro wS hSw; (try dsimp only at hSw); obtain ⟨s1, s2, s3, s4, s5⟩ := hSw; first | (apply Eq.trans; apply ex_ld_id; exact rfl; exact rfl; assumption; with_reducible rfl) | (apply Eq.trans; apply ex_bld1_at; exact rfl; exact rfl; decide; with_reducible rfl) | (apply Eq.trans; apply ex_bld0_at; exact rfl; with_reducible rfl) | (go_simp; try with_reducible rfl)
      try simp only [List.getElem_toArray, List.getElem_cons_zero, List.getElem_cons_succ, Act.put, List.setIfInBounds_toArray, List.set_cons_zero, List.set_cons_succ]
      refine wpAnyS_take (v := ?_) hA rfl (fun _ _ _ h => h) (Or.inl ⟨by rfl, ?_⟩) hF (fun hA => ?_)
      rotate_left
      · intro wS hSw; (try dsimp only at hSw); obtain ⟨s1, s2, s3, s4, s5⟩ := hSw; first | (apply Eq.trans; apply ex_ld_id; exact rfl; exact rfl; assumption; with_reducible rfl) | (apply Eq.trans; apply ex_bld1_at; exact rfl; exact rfl; decide; with_reducible rfl) | (apply Eq.trans; apply ex_bld0_at; exact rfl; with_reducible rfl) | (go_simp; try with_reducible rfl)
      try simp only [List.getElem_toArray, List.getElem_cons_zero, List.getElem_cons_succ, Act.put, List.setIfInBounds_toArray, List.set_cons_zero, List.set_cons_succ]
      refine wpAnyS_take (v := ?_) hA rfl (fun _ _ _ h => h) (Or.inl ⟨by rfl, ?_⟩) hF (fun hA => ?_)
      rotate_left
      · intro wS hSw; (try dsimp only at hSw); obtain ⟨s1, s2, s3, s4, s5⟩ := hSw; first | (apply Eq.trans; apply ex_ld_id; exact rfl; exact rfl; assumption; with_reducible rfl) | (apply Eq.trans; apply ex_bld1_at; exact rfl; exact rfl; decide; with_reducible rfl) | (apply Eq.trans; apply ex_bld0_at; exact rfl; with_reducible rfl) | (go_simp; try with_reducible rfl)
      try simp only [List.getElem_toArray, List.getElem_cons_zero, List.getElem_cons_succ, Act.put, List.setIfInBounds_toArray, List.set_cons_zero, List.set_cons_succ]
      refine wpAnyS_take (v := ?_) hA rfl (fun _ _ _ h => h) (Or.inl ⟨by rfl, ?_⟩) hF (fun hA => ?_)
      rotate_left
      · intro wS hSw; (try dsimp only at hSw); obtain ⟨s1, s2, s3, s4, s5⟩ := hSw; first | (apply Eq.trans; apply ex_ld_id; exact rfl; exact rfl; assumption; with_reducible rfl) | (apply Eq.trans; apply ex_bld1_at; exact rfl; exact rfl; decide; with_reducible rfl) | (apply Eq.trans; apply ex_bld0_at; exact rfl; with_reducible rfl) | (go_simp; try with_reducible rfl)
      try simp only [List.getElem_toArray, List.getElem_cons_zero, List.getElem_cons_succ, Act.put, List.setIfInBounds_toArray, List.set_cons_zero, List.set_cons_succ]
      refine wpAnyS_take (v := ?_) hA rfl (fun _ _ _ h => h) (Or.inl ⟨by rfl, ?_⟩) hF (fun hA => ?_)
      rotate_left
      · intro wS hSw; (try dsimp only at hSw); obtain ⟨s1, s2, s3, s4, s5⟩ := hSw; first | (apply Eq.trans; apply ex_ld_id; exact rfl; exact rfl; assumption; with_reducible rfl) | (apply Eq.trans; apply ex_bld1_at; exact rfl; exact rfl; decide; with_reducible rfl) | (apply Eq.trans; apply ex_bld0_at; exact rfl; with_reducible rfl) | (go_simp; try with_reducible rfl)
      try simp only [List.getElem_toArray, List.getElem_cons_zero, List.getElem_cons_succ, Act.put, List.setIfInBounds_toArray, List.set_cons_zero, List.set_cons_succ]
      refine wpAnyS_take (v := ?_) hA rfl (fun _ _ _ h => h) (Or.inl ⟨by rfl, ?_⟩) hF (fun hA => ?_)
      rotate_left
      · intro wS hSw; (try dsimp only at hSw); obtain ⟨s1, s2, s3, s4, s5⟩ := hSw; first | (apply Eq.trans; apply ex_ld_id; exact rfl; exact rfl; assumption; with_reducible rfl) | (apply Eq.trans; apply ex_bld1_at; exact rfl; exact rfl; decide; with_reducible rfl) | (apply Eq.trans; apply ex_bld0_at; exact rfl; with_reducible rfl) | (go_simp; try with_reducible rfl)
      try simp only [List.getElem_toArray, List.getElem_cons_zero, List.getElem_cons_succ, Act.put, List.setIfInBounds_toArray, List.set_cons_zero, List.set_cons_succ]
      refine wpAnyS_take (v := ?_) hA rfl (fun _ _ _ h => h) (Or.inl ⟨by rfl, ?_⟩) hF (fun hA => ?_)
      rotate_left
      · intro wS hSw; (try dsimp only at hSw); obtain ⟨s1, s2, s3, s4, s5⟩ := hSw; first | (apply Eq.trans; apply ex_ld_id; exact rfl; exact rfl; assumption; with_reducible rfl) | (apply Eq.trans; apply ex_bld1_at; exact rfl; exact rfl; decide; with_reducible rfl) | (apply Eq.trans; apply ex_bld0_at; exact rfl; with_reducible rfl) | (go_simp; try with_reducible rfl)
      try simp only [List.getElem_toArray, List.getElem_cons_zero, List.getElem_cons_succ, Act.put, List.setIfInBounds_toArray, List.set_cons_zero, List.set_cons_succ]
      refine wpAnyS_take (v := ?_) hA rfl (fun _ _ _ h => h) (Or.inl ⟨by rfl, ?_⟩) hF (fun hA => ?_)
      rotate_left
      · intro wS hSw; (try dsimp only at hSw); obtain ⟨s1, s2, s3, s4, s5⟩ := hSw; first | (apply Eq.trans; apply ex_ld_id; exact rfl; exact rfl; assumption; with_reducible rfl) | (apply Eq.trans; apply ex_bld1_at; exact rfl; exact rfl; decide; with_reducible rfl) | (apply Eq.trans; apply ex_bld0_at; exact rfl; with_reducible rfl) | (go_simp; try with_reducible rfl)
      try simp only [List.getElem_toArray, List.getElem_cons_zero, List.getElem_cons_succ, Act.put, List.setIfInBounds_toArray, List.set_cons_zero, List.set_cons_succ]
      refine wpAnyS_take (v := ?_) hA rfl (fun _ _ _ h => h) (Or.inl ⟨by rfl, ?_⟩) hF (fun hA => ?_)
      rotate_left
      · intro wS hSw; (try dsimp only at hSw); obtain ⟨s1, s2, s3, s4, s5⟩ := hSw; first | (apply Eq.trans; apply ex_ld_id; exact rfl; exact rfl; assumption; with_reducible rfl) | (apply Eq.trans; apply ex_bld1_at; exact rfl; exact rfl; decide; with_reducible rfl) | (apply Eq.trans; apply ex_bld0_at; exact rfl; with_reducible rfl) | (go_simp; try with_reducible rfl)
      try simp only [List.getElem_toArray, List.getElem_cons_zero, List.getElem_cons_succ, Act.put, List.setIfInBounds_toArray, List.set_cons_zero, List.set_cons_succ]
      refine wpAnyS_take (v := ?_) hA rfl (fun _ _ _ h => h) (Or.inl ⟨by rfl, ?_⟩) hF (fun hA => ?_)
      rotate_left
      · intro wS hSw; (try dsimp only at hSw); obtain ⟨s1, s2, s3, s4, s5⟩ := hSw; first | (apply Eq.trans; apply ex_ld_id; exact rfl; exact rfl; assumption; with_reducible rfl) | (apply Eq.trans; apply ex_bld1_at; exact rfl; exact rfl; decide; with_reducible rfl) | (apply Eq.trans; apply ex_bld0_at; exact rfl; with_reducible rfl) | (go_simp; try with_reducible rfl)
      try simp only [List.getElem_toArray, List.getElem_cons_zero, List.getElem_cons_succ, Act.put, List.setIfInBounds_toArray, List.set_cons_zero, List.set_cons_succ]
      refine wpAnyS_take (v := ?_) hA rfl (fun _ _ _ h => h) (Or.inl ⟨by rfl, ?_⟩) hF (fun hA => ?_)
      rotate_left
      · intro wS hSw; (try dsimp only at hSw); obtain ⟨s1, s2, s3, s4, s5⟩ := hSw; first | (apply Eq.trans; apply ex_ld_id; exact rfl; exact rfl; assumption; with_reducible rfl) | (apply Eq.trans; apply ex_bld1_at; exact rfl; exact rfl; decide; with_reducible rfl) | (apply Eq.trans; apply ex_bld0_at; exact rfl; with_reducible rfl) | (go_simp; try with_reducible rfl)
      try simp only [List.getElem_toArray, List.getElem_cons_zero, List.getElem_cons_succ, Act.put, List.setIfInBounds_toArray, List.set_cons_zero, List.set_cons_succ]
      refine wpAnyS_take (v := ?_) hA rfl (fun _ _ _ h => h) (Or.inl ⟨by rfl, ?_⟩) hF (fun hA => ?_)
      rotate_left
      · intro wS hSw; (try dsimp only at hSw); obtain ⟨s1, s2, s3, s4, s5⟩ := hSw; first | (apply Eq.trans; apply ex_ld_id; exact rfl; exact rfl; assumption; with_reducible rfl) | (apply Eq.trans; apply ex_bld1_at; exact rfl; exact rfl; decide; with_reducible rfl) | (apply Eq.trans; apply ex_bld0_at; exact rfl; with_reducible rfl) | (go_simp; try with_reducible rfl)
      try simp only [List.getElem_toArray, List.getElem_cons_zero, List.getElem_cons_succ, Act.put, List.setIfInBounds_toArray, List.set_cons_zero, List.set_cons_succ]
      refine wpAnyS_one hA rfl (fun K' hK => ?_)
      rw [if_pos (by rfl)]
      go_simp
      go_at_call 24
      refine (reaches_any _ D Fe (LG (r + 1)) (dJ.fr0 fu3) (LL i) (LL j)).mono ?_
      rintro e u4 ⟨rfl, hu4⟩
      have fu4 := fu3.step0 hu4
      replace hF := keep _ _ hu4.any hF
      refine hK.out _ _ hF (fun hA => ?_)
      clear hK K'
      as_aux_lemma =>
      rw [HR.out]
      refine wpAnyS_take (v := ?_) hA rfl (fun _ _ _ h => h) (Or.inl ⟨by rfl, ?_⟩) hF (fun hA => ?_)
      rotate_left
      · intro wS hSw; (try dsimp only at hSw); obtain ⟨s1, s2, s3, s4, s5⟩ := hSw; first | (apply Eq.trans; apply ex_ld_id; exact rfl; exact rfl; assumption; with_reducible rfl) | (apply Eq.trans; apply ex_bld1_at; exact rfl; exact rfl; decide; with_reducible rfl) | (apply Eq.trans; apply ex_bld0_at; exact rfl; with_reducible rfl) | (go_simp; try with_reducible rfl)
      try simp only [List.getElem_toArray, List.getElem_cons_zero, List.getElem_cons_succ, Act.put, List.setIfInBounds_toArray, List.set_cons_zero, List.set_cons_succ]
      refine wpAnyS_take (v := ?_) hA rfl (fun _ _ _ h => h) (Or.inl ⟨by rfl, ?_⟩) hF (fun hA => ?_)
      rotate_left
      · intro wS hSw; (try dsimp only at hSw); obtain ⟨s1, s2, s3, s4, s5⟩ := hSw; first | (apply Eq.trans; apply ex_ld_id; exact rfl; exact rfl; assumption; with_reducible rfl) | (apply Eq.trans; apply ex_bld1_at; exact rfl; exact rfl; decide; with_reducible rfl) | (apply Eq.trans; apply ex_bld0_at; exact rfl; with_reducible rfl) | (go_simp; try with_reducible rfl)
      try simp only [List.getElem_toArray, List.getElem_cons_zero, List.getElem_cons_succ, Act.put, List.setIfInBounds_toArray, List.set_cons_zero, List.set_cons_succ]
      refine wpAnyS_take (v := ?_) hA rfl (fun _ _ _ h => h) (Or.inl ⟨by rfl, ?_⟩) hF (fun hA => ?_)
      rotate_left
      · intro wS hSw; (try dsimp only at hSw); obtain ⟨s1, s2, s3, s4, s5⟩ := hSw; first | (apply Eq.trans; apply ex_ld_id; exact rfl; exact rfl; assumption; with_reducible rfl) | (apply Eq.trans; apply ex_bld1_at; exact rfl; exact rfl; decide; with_reducible rfl) | (apply Eq.trans; apply ex_bld0_at; exact rfl; with_reducible rfl) | (go_simp; try with_reducible rfl)
      try simp only [List.getElem_toArray, List.getElem_cons_zero, List.getElem_cons_succ, Act.put, List.setIfInBounds_toArray, List.set_cons_zero, List.set_cons_succ]
      refine wpAnyS_take (v := ?_) hA rfl (fun _ _ _ h => h) (Or.inl ⟨by rfl, ?_⟩) hF (fun hA => ?_)
      rotate_left
      · intro wS hSw; (try dsimp only at hSw); obtain ⟨s1, s2, s3, s4, s5⟩ := hSw; first | (apply Eq.trans; apply ex_ld_id; exact rfl; exact rfl; assumption; with_reducible rfl) | (apply Eq.trans; apply ex_bld1_at; exact rfl; exact rfl; decide; with_reducible rfl) | (apply Eq.trans; apply ex_bld0_at; exact rfl; with_reducible rfl) | (go_simp; try with_reducible rfl)
      try simp only [List.getElem_toArray, List.getElem_cons_zero, List.getElem_cons_succ, Act.put, List.setIfInBounds_toArray, List.set_cons_zero, List.set_cons_succ]
      refine wpAnyS_one hA rfl (fun K' hK => ?_)
      rw [if_pos (by rfl)]
      go_simp
      go_at_call 26
      refine (heads_any _ D Fe (LG (r + 1)) (dJ.fr0 fu4)).mono ?_
      rintro e u5 ⟨l5, ⟨A5, c5, rfl, ho5, hu5⟩, hr5, hm5, hb5⟩
      have fu5 := fu4.step0 hu5
      have el5 : l5 = [LL r] := LG_heads (by omega) hr5 hm5
      subst el5
      replace hF := keep _ _ hu5.any hF
      refine hK.out _ _ hF (fun hA => ?_)
      clear hK K'
      as_aux_lemma =>
      clear hm5 hr5 hb5 ho5
      refine wpAnyS_take (v := ?_) hA rfl (fun _ _ _ h => h) (Or.inl ⟨by rfl, ?_⟩) hF (fun hA => ?_)
      rotate_left
      · intro wS hSw; (try dsimp only at hSw); obtain ⟨s1, s2, s3, s4, s5⟩ := hSw; first | (apply Eq.trans; apply ex_ld_id; exact rfl; exact rfl; assumption; with_reducible rfl) | (apply Eq.trans; apply ex_bld1_at; exact rfl; exact rfl; decide; with_reducible rfl) | (apply Eq.trans; apply ex_bld0_at; exact rfl; with_reducible rfl) | (go_simp; try with_reducible rfl)
      try simp only [List.getElem_toArray, List.getElem_cons_zero, List.getElem_cons_succ, Act.put, List.setIfInBounds_toArray, List.set_cons_zero, List.set_cons_succ]
      refine wpAnyS_take (v := ?_) hA rfl (fun _ _ _ h => h) (Or.inl ⟨by rfl, ?_⟩) hF (fun hA => ?_)
      rotate_left
      · intro wS hSw; (try dsimp only at hSw); obtain ⟨s1, s2, s3, s4, s5⟩ := hSw; first | (apply Eq.trans; apply ex_ld_id; exact rfl; exact rfl; assumption; with_reducible rfl) | (apply Eq.trans; apply ex_bld1_at; exact rfl; exact rfl; decide; with_reducible rfl) | (apply Eq.trans; apply ex_bld0_at; exact rfl; with_reducible rfl) | (go_simp; try with_reducible rfl)
      try simp only [List.getElem_toArray, List.getElem_cons_zero, List.getElem_cons_succ, Act.put, List.setIfInBounds_toArray, List.set_cons_zero, List.set_cons_succ]
      refine wpAnyS_take (v := ?_) hA rfl (fun _ _ _ h => h) (Or.inl ⟨by rfl, ?_⟩) hF (fun hA => ?_)
      rotate_left
      · intro wS hSw; (try dsimp only at hSw); obtain ⟨s1, s2, s3, s4, s5⟩ := hSw; first | (apply Eq.trans; apply ex_ld_id; exact rfl; exact rfl; assumption; with_reducible rfl) | (apply Eq.trans; apply ex_bld1_at; exact rfl; exact rfl; decide; with_reducible rfl) | (apply Eq.trans; apply ex_bld0_at; exact rfl; with_reducible rfl) | (go_simp; try with_reducible rfl)
      try simp only [List.getElem_toArray, List.getElem_cons_zero, List.getElem_cons_succ, Act.put, List.setIfInBounds_toArray, List.set_cons_zero, List.set_cons_succ]
      refine wpAnyS_take (v := ?_) hA rfl (fun _ _ _ h => h) (Or.inl ⟨by rfl, ?_⟩) hF (fun hA => ?_)
      rotate_left
      · intro wS hSw; (try dsimp only at hSw); obtain ⟨s1, s2, s3, s4, s5⟩ := hSw; first | (apply Eq.trans; apply ex_ld_id; exact rfl; exact rfl; assumption; with_reducible rfl) | (apply Eq.trans; apply ex_bld1_at; exact rfl; exact rfl; decide; with_reducible rfl) | (apply Eq.trans; apply ex_bld0_at; exact rfl; with_reducible rfl) | (go_simp; try with_reducible rfl)
      try simp only [List.getElem_toArray, List.getElem_cons_zero, List.getElem_cons_succ, Act.put, List.setIfInBounds_toArray, List.set_cons_zero, List.set_cons_succ]
      refine wpAnyS_take (v := ?_) hA rfl (fun _ _ _ h => h) (Or.inl ⟨by rfl, ?_⟩) hF (fun hA => ?_)
      rotate_left
      · intro wS hSw; (try dsimp only at hSw); obtain ⟨s1, s2, s3, s4, s5⟩ := hSw; first | (apply Eq.trans; apply ex_ld_id; exact rfl; exact rfl; assumption; with_reducible rfl) | (apply Eq.trans; apply ex_bld1_at; exact rfl; exact rfl; decide; with_reducible rfl) | (apply Eq.trans; apply ex_bld0_at; exact rfl; with_reducible rfl) | (go_simp; try with_reducible rfl)
      try simp only [List.getElem_toArray, List.getElem_cons_zero, List.getElem_cons_succ, Act.put, List.setIfInBounds_toArray, List.set_cons_zero, List.set_cons_succ]
      refine wpAnyS_take (v := ?_) hA rfl (fun _ _ _ h => h) (Or.inl ⟨by rfl, ?_⟩) hF (fun hA => ?_)
      rotate_left
      · intro wS hSw; (try dsimp only at hSw); obtain ⟨s1, s2, s3, s4, s5⟩ := hSw; first | (apply Eq.trans; apply ex_ld_id; exact rfl; exact rfl; assumption; with_reducible rfl) | (apply Eq.trans; apply ex_bld1_at; exact rfl; exact rfl; decide; with_reducible rfl) | (apply Eq.trans; apply ex_bld0_at; exact rfl; with_reducible rfl) | (go_simp; try with_reducible rfl)
      try simp only [List.getElem_toArray, List.getElem_cons_zero, List.getElem_cons_succ, Act.put, List.setIfInBounds_toArray, List.set_cons_zero, List.set_cons_succ]
      refine wpAnyS_take (v := ?_) hA rfl (fun _ _ _ h => h) (Or.inl ⟨by rfl, ?_⟩) hF (fun hA => ?_)
      rotate_left
      · intro wS hSw; (try dsimp only at hSw); obtain ⟨s1, s2, s3, s4, s5⟩ := hSw; first | (apply Eq.trans; apply ex_ld_id; exact rfl; exact rfl; assumption; with_reducible rfl) | (apply Eq.trans; apply ex_bld1_at; exact rfl; exact rfl; decide; with_reducible rfl) | (apply Eq.trans; apply ex_bld0_at; exact rfl; with_reducible rfl) | (go_simp; try with_reducible rfl)
      try simp only [List.getElem_toArray, List.getElem_cons_zero, List.getElem_cons_succ, Act.put, List.setIfInBounds_toArray, List.set_cons_zero, List.set_cons_succ]
      refine wpAnyS_take (v := ?_) hA rfl (fun _ _ _ h => h) (Or.inl ⟨by rfl, ?_⟩) hF (fun hA => ?_)
      rotate_left
      · intro wS hSw; (try dsimp only at hSw); obtain ⟨s1, s2, s3, s4, s5⟩ := hSw; first | (apply Eq.trans; apply ex_ld_id; exact rfl; exact rfl; assumption; with_reducible rfl) | (apply Eq.trans; apply ex_bld1_at; exact rfl; exact rfl; decide; with_reducible rfl) | (apply Eq.trans; apply ex_bld0_at; exact rfl; with_reducible rfl) | (go_simp; try with_reducible rfl)
      try simp only [List.getElem_toArray, List.getElem_cons_zero, List.getElem_cons_succ, Act.put, List.setIfInBounds_toArray, List.set_cons_zero, List.set_cons_succ]
      refine wpAnyS_take (v := ?_) hA rfl (fun _ _ _ h => h) (Or.inl ⟨by rfl, ?_⟩) hF (fun hA => ?_)
      rotate_left
      · intro wS hSw; (try dsimp only at hSw); obtain ⟨s1, s2, s3, s4, s5⟩ := hSw; first | (apply Eq.trans; apply ex_ld_id; exact rfl; exact rfl; assumption; with_reducible rfl) | (apply Eq.trans; apply ex_bld1_at; exact rfl; exact rfl; decide; with_reducible rfl) | (apply Eq.trans; apply ex_bld0_at; exact rfl; with_reducible rfl) | (go_simp; try with_reducible rfl)
      try simp only [List.getElem_toArray, List.getElem_cons_zero, List.getElem_cons_succ, Act.put, List.setIfInBounds_toArray, List.set_cons_zero, List.set_cons_succ]
      refine wpAnyS_take (v := ?_) hA rfl (fun _ _ _ h => h) (Or.inl ⟨by rfl, ?_⟩) hF (fun hA => ?_)
      rotate_left
      · intro wS hSw; (try dsimp only at hSw); obtain ⟨s1, s2, s3, s4, s5⟩ := hSw; first | (apply Eq.trans; apply ex_ld_id; exact rfl; exact rfl; assumption; with_reducible rfl) | (apply Eq.trans; apply ex_bld1_at; exact rfl; exact rfl; decide; with_reducible rfl) | (apply Eq.trans; apply ex_bld0_at; exact rfl; with_reducible rfl) | (go_simp; try with_reducible rfl)
      try simp only [List.getElem_toArray, List.getElem_cons_zero, List.getElem_cons_succ, Act.put, List.setIfInBounds_toArray, List.set_cons_zero, List.set_cons_succ]
      refine wpAnyS_one hA rfl (fun K' hK => ?_)
      rw [if_pos (by rfl)]
      go_simp
      go_at_call 26
      refine (heads_any _ D Fe (LG (r + 1)) (dJ.fr0 fu5)).mono ?_
      rintro e u6 ⟨l6, ⟨A6, c6, rfl, ho6, hu6⟩, hr6, hm6, hb6⟩
      have fu6 := fu5.step0 hu6
      have el6 : l6 = [LL r] := LG_heads (by omega) hr6 hm6
      subst el6
      obtain ⟨g6, o6, rfl⟩ := (Sl.own ho6).ad (by simp)
      have g6' := (Sl.own ho6).id 0 (by simp)
      simp only [Nat.zero_mul, Nat.add_zero, List.getElem_cons_zero] at g6'
      replace hF := keep _ _ hu6.any hF
      refine hK.out _ _ hF (fun hA => ?_)
      clear hK K'
      as_aux_lemma =>
      clear hm6 hr6 hb6 ho6
      refine wpAnyS_take (v := ?_) hA rfl (fun _ _ _ h => h) (Or.inl ⟨by rfl, ?_⟩) hF (fun hA => ?_)
      rotate_left
      · intro wS hSw; (try dsimp only at hSw); obtain ⟨s1, s2, s3, s4, s5⟩ := hSw; first | (apply Eq.trans; apply ex_ld_id; exact rfl; exact rfl; assumption; with_reducible rfl) | (apply Eq.trans; apply ex_bld1_at; exact rfl; exact rfl; decide; with_reducible rfl) | (apply Eq.trans; apply ex_bld0_at; exact rfl; with_reducible rfl) | (go_simp; try with_reducible rfl)
      try simp only [List.getElem_toArray, List.getElem_cons_zero, List.getElem_cons_succ, Act.put, List.setIfInBounds_toArray, List.set_cons_zero, List.set_cons_succ]
      refine wpAnyS_one hA rfl (fun K' hK => ?_)
      rw [if_pos (by rfl)]
      refine step_runW _ _ (ex_ld_id (x := LL r) rfl rfl g6') ?_
      refine hK.out _ _ hF (fun hA => ?_)
      clear hK K' g6'
      refine wpAnyS_take (v := ?_) hA rfl (fun _ _ _ h => h) (Or.inl ⟨by rfl, ?_⟩) hF (fun hA => ?_)
      rotate_left
      · intro wS hSw; (try dsimp only at hSw); obtain ⟨s1, s2, s3, s4, s5⟩ := hSw; first | (apply Eq.trans; apply ex_ld_id; exact rfl; exact rfl; assumption; with_reducible rfl) | (apply Eq.trans; apply ex_bld1_at; exact rfl; exact rfl; decide; with_reducible rfl) | (apply Eq.trans; apply ex_bld0_at; exact rfl; with_reducible rfl) | (go_simp; try with_reducible rfl)
      try simp only [List.getElem_toArray, List.getElem_cons_zero, List.getElem_cons_succ, Act.put, List.setIfInBounds_toArray, List.set_cons_zero, List.set_cons_succ]
      refine wpAnyS_take (v := ?_) hA rfl (fun _ _ _ h => h) (Or.inl ⟨by rfl, ?_⟩) hF (fun hA => ?_)
      rotate_left
      · intro wS hSw; (try dsimp only at hSw); obtain ⟨s1, s2, s3, s4, s5⟩ := hSw; first | (apply Eq.trans; apply ex_ld_id; exact rfl; exact rfl; assumption; with_reducible rfl) | (apply Eq.trans; apply ex_bld1_at; exact rfl; exact rfl; decide; with_reducible rfl) | (apply Eq.trans; apply ex_bld0_at; exact rfl; with_reducible rfl) | (go_simp; try with_reducible rfl)
      try simp only [List.getElem_toArray, List.getElem_cons_zero, List.getElem_cons_succ, Act.put, List.setIfInBounds_toArray, List.set_cons_zero, List.set_cons_succ]
      refine wpAnyS_take (v := ?_) hA rfl (fun _ _ _ h => h) (Or.inl ⟨by rfl, ?_⟩) hF (fun hA => ?_)
      rotate_left
      · intro wS hSw; (try dsimp only at hSw); obtain ⟨s1, s2, s3, s4, s5⟩ := hSw; first | (apply Eq.trans; apply ex_ld_id; exact rfl; exact rfl; assumption; with_reducible rfl) | (apply Eq.trans; apply ex_bld1_at; exact rfl; exact rfl; decide; with_reducible rfl) | (apply Eq.trans; apply ex_bld0_at; exact rfl; with_reducible rfl) | (go_simp; try with_reducible rfl)
      try simp only [List.getElem_toArray, List.getElem_cons_zero, List.getElem_cons_succ, Act.put, List.setIfInBounds_toArray, List.set_cons_zero, List.set_cons_succ]
      refine wpAnyS_take (v := ?_) hA rfl (fun _ _ _ h => h) (Or.inl ⟨by rfl, ?_⟩) hF (fun hA => ?_)
      rotate_left
      · intro wS hSw; (try dsimp only at hSw); obtain ⟨s1, s2, s3, s4, s5⟩ := hSw; first | (apply Eq.trans; apply ex_ld_id; exact rfl; exact rfl; assumption; with_reducible rfl) | (apply Eq.trans; apply ex_bld1_at; exact rfl; exact rfl; decide; with_reducible rfl) | (apply Eq.trans; apply ex_bld0_at; exact rfl; with_reducible rfl) | (go_simp; try with_reducible rfl)
      try simp only [List.getElem_toArray, List.getElem_cons_zero, List.getElem_cons_succ, Act.put, List.setIfInBounds_toArray, List.set_cons_zero, List.set_cons_succ]
      refine wpAnyS_take (v := ?_) hA rfl (fun _ _ _ h => h) (Or.inl ⟨by rfl, ?_⟩) hF (fun hA => ?_)
      rotate_left
      · intro wS hSw; (try dsimp only at hSw); obtain ⟨s1, s2, s3, s4, s5⟩ := hSw; first | (apply Eq.trans; apply ex_ld_id; exact rfl; exact rfl; assumption; with_reducible rfl) | (apply Eq.trans; apply ex_bld1_at; exact rfl; exact rfl; decide; with_reducible rfl) | (apply Eq.trans; apply ex_bld0_at; exact rfl; with_reducible rfl) | (go_simp; try with_reducible rfl)
      try simp only [List.getElem_toArray, List.getElem_cons_zero, List.getElem_cons_succ, Act.put, List.setIfInBounds_toArray, List.set_cons_zero, List.set_cons_succ]
      refine wpAnyS_take (v := ?_) hA rfl (fun _ _ _ h => h) (Or.inl ⟨by rfl, ?_⟩) hF (fun hA => ?_)
      rotate_left
      · intro wS hSw; (try dsimp only at hSw); obtain ⟨s1, s2, s3, s4, s5⟩ := hSw; first | (apply Eq.trans; apply ex_ld_id; exact rfl; exact rfl; assumption; with_reducible rfl) | (apply Eq.trans; apply ex_bld1_at; exact rfl; exact rfl; decide; with_reducible rfl) | (apply Eq.trans; apply ex_bld0_at; exact rfl; with_reducible rfl) | (go_simp; try with_reducible rfl)
      try simp only [List.getElem_toArray, List.getElem_cons_zero, List.getElem_cons_succ, Act.put, List.setIfInBounds_toArray, List.set_cons_zero, List.set_cons_succ]
      refine wpAnyS_one hA rfl (fun K' hK => ?_)
      rw [if_pos (by rfl)]
      refine step_runW _ _ (ex_bs1_at (x := id2 98 0) rfl rfl) ?_
      have hu7 : Fr noB u6 (u6.alloc (rowo [id2 98 0])) := (Fr.refl noB u6).alloc _
      have fu7 := fu6.step0 hu7
      have sl7 := sl_new u6 [id2 98 0]
      replace hF := keep _ _ hu7.any hF
      refine hK.out _ _ hF (fun hA => ?_)
      clear hK K'
      as_aux_lemma =>
      refine wpAnyS_one hA rfl (fun K' hK => ?_)
      rw [if_pos (by rfl)]
      go_simp
      go_at_call 10
      refine (addL_any (DagL.fr0 ⟨Fe, hJ⟩ fu7) (by rw [LG_len]; omega) (id2 99 0) _ _ _ [id2 98 0] rfl sl7 (by simp)).mono ?_
      rintro e u8 ⟨rfl, hE8, hu8⟩
      rw [show addG (LG (r + 1)) (id2 99 0) [id2 98 0] = (110, LG (r + 1)) from LG_99 (by omega)] at hE8 ⊢
      replace hF := keep _ _ hu8 hF
      refine hK.out _ _ hF (fun hA => ?_)
      clear hK K'
      as_aux_lemma =>
      refine wpAnyS_take (v := ?_) hA rfl (fun _ _ _ h => h) (Or.inl ⟨by rfl, ?_⟩) hF (fun hA => ?_)
      rotate_left
      · intro wS hSw; (try dsimp only at hSw); obtain ⟨s1, s2, s3, s4, s5⟩ := hSw; first | (apply Eq.trans; apply ex_ld_id; exact rfl; exact rfl; assumption; with_reducible rfl) | (apply Eq.trans; apply ex_bld1_at; exact rfl; exact rfl; decide; with_reducible rfl) | (apply Eq.trans; apply ex_bld0_at; exact rfl; with_reducible rfl) | (go_simp; try with_reducible rfl)
      try simp only [List.getElem_toArray, List.getElem_cons_zero, List.getElem_cons_succ, Act.put, List.setIfInBounds_toArray, List.set_cons_zero, List.set_cons_succ]
      refine wpAnyS_take (v := ?_) hA rfl (fun _ _ _ h => h) (Or.inl ⟨by rfl, ?_⟩) hF (fun hA => ?_)
      rotate_left
      · intro wS hSw; (try dsimp only at hSw); obtain ⟨s1, s2, s3, s4, s5⟩ := hSw; first | (apply Eq.trans; apply ex_ld_id; exact rfl; exact rfl; assumption; with_reducible rfl) | (apply Eq.trans; apply ex_bld1_at; exact rfl; exact rfl; decide; with_reducible rfl) | (apply Eq.trans; apply ex_bld0_at; exact rfl; with_reducible rfl) | (go_simp; try with_reducible rfl)
      try simp only [List.getElem_toArray, List.getElem_cons_zero, List.getElem_cons_succ, Act.put, List.setIfInBounds_toArray, List.set_cons_zero, List.set_cons_succ]
      refine wpAnyS_take (v := ?_) hA rfl (fun _ _ _ h => h) (Or.inl ⟨by rfl, ?_⟩) hF (fun hA => ?_)
      rotate_left
      · intro wS hSw; (try dsimp only at hSw); obtain ⟨s1, s2, s3, s4, s5⟩ := hSw; first | (apply Eq.trans; apply ex_ld_id; exact rfl; exact rfl; assumption; with_reducible rfl) | (apply Eq.trans; apply ex_bld1_at; exact rfl; exact rfl; decide; with_reducible rfl) | (apply Eq.trans; apply ex_bld0_at; exact rfl; with_reducible rfl) | (go_simp; try with_reducible rfl)
      try simp only [List.getElem_toArray, List.getElem_cons_zero, List.getElem_cons_succ, Act.put, List.setIfInBounds_toArray, List.set_cons_zero, List.set_cons_succ]
      refine wpAnyS_take (v := ?_) hA rfl (fun _ _ _ h => h) (Or.inl ⟨by rfl, ?_⟩) hF (fun hA => ?_)
      rotate_left
      · intro wS hSw; (try dsimp only at hSw); obtain ⟨s1, s2, s3, s4, s5⟩ := hSw; first | (apply Eq.trans; apply ex_ld_id; exact rfl; exact rfl; assumption; with_reducible rfl) | (apply Eq.trans; apply ex_bld1_at; exact rfl; exact rfl; decide; with_reducible rfl) | (apply Eq.trans; apply ex_bld0_at; exact rfl; with_reducible rfl) | (go_simp; try with_reducible rfl)
      try simp only [List.getElem_toArray, List.getElem_cons_zero, List.getElem_cons_succ, Act.put, List.setIfInBounds_toArray, List.set_cons_zero, List.set_cons_succ]
      refine wpAnyS_take (v := ?_) hA rfl (fun _ _ _ h => h) (Or.inl ⟨by rfl, ?_⟩) hF (fun hA => ?_)
      rotate_left
      · intro wS hSw; (try dsimp only at hSw); obtain ⟨s1, s2, s3, s4, s5⟩ := hSw; first | (apply Eq.trans; apply ex_ld_id; exact rfl; exact rfl; assumption; with_reducible rfl) | (apply Eq.trans; apply ex_bld1_at; exact rfl; exact rfl; decide; with_reducible rfl) | (apply Eq.trans; apply ex_bld0_at; exact rfl; with_reducible rfl) | (go_simp; try with_reducible rfl)
      try simp only [List.getElem_toArray, List.getElem_cons_zero, List.getElem_cons_succ, Act.put, List.setIfInBounds_toArray, List.set_cons_zero, List.set_cons_succ]
      refine wpAnyS_one hA rfl (fun K' hK => ?_)
      rw [if_pos (by rfl)]
      go_simp
      go_at_call 10
      refine (addL_any hE8 (by rw [LG_len]; omega) zID none 0 0 [] rfl (Sl.nil _ _) (by simp)).mono ?_
      rintro e u9 ⟨rfl, hE9, hu9⟩
      rw [addG_zero] at hE9 ⊢
      replace hF := keep _ _ hu9 hF
      refine hK.out _ _ hF (fun hA => ?_)
      clear hK K'
      as_aux_lemma =>
      refine wpAnyS_take (v := ?_) hA rfl (fun _ _ _ h => h) (Or.inl ⟨by rfl, ?_⟩) hF (fun hA => ?_)
      rotate_left
      · intro wS hSw; (try dsimp only at hSw); obtain ⟨s1, s2, s3, s4, s5⟩ := hSw; first | (apply Eq.trans; apply ex_ld_id; exact rfl; exact rfl; assumption; with_reducible rfl) | (apply Eq.trans; apply ex_bld1_at; exact rfl; exact rfl; decide; with_reducible rfl) | (apply Eq.trans; apply ex_bld0_at; exact rfl; with_reducible rfl) | (go_simp; try with_reducible rfl)
      try simp only [List.getElem_toArray, List.getElem_cons_zero, List.getElem_cons_succ, Act.put, List.setIfInBounds_toArray, List.set_cons_zero, List.set_cons_succ]
      refine wpAnyS_take (v := ?_) hA rfl (fun _ _ _ h => h) (Or.inl ⟨by rfl, ?_⟩) hF (fun hA => ?_)
      rotate_left
      · intro wS hSw; (try dsimp only at hSw); obtain ⟨s1, s2, s3, s4, s5⟩ := hSw; first | (apply Eq.trans; apply ex_ld_id; exact rfl; exact rfl; assumption; with_reducible rfl) | (apply Eq.trans; apply ex_bld1_at; exact rfl; exact rfl; decide; with_reducible rfl) | (apply Eq.trans; apply ex_bld0_at; exact rfl; with_reducible rfl) | (go_simp; try with_reducible rfl)
      try simp only [List.getElem_toArray, List.getElem_cons_zero, List.getElem_cons_succ, Act.put, List.setIfInBounds_toArray, List.set_cons_zero, List.set_cons_succ]
      refine wpAnyS_end hA rfl ?_
      simp only [List.drop_succ_cons, List.drop_zero]
      clear keep hF
      go_wp2
      go_ret
      exact ⟨rfl, hE9.fr.below⟩
end Go.Proofs.Ytchiclnnoealdaa
