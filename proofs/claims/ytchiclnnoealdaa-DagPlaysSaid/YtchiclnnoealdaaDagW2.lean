/- Contracts: right, slices.Equal at IDs. -/
import Derived.Test.YtchiclnnoealdaaDagW1
import Derived.Deep.LoopGhost
namespace Go.Proofs.Ytchiclnnoealdaa
open Go.RowKit Go.Maps Go.Sort
set_option linter.unusedVariables false
set_option linter.unusedSimpArgs false

theorem asc_iff (ps : List ID) : asc ps = true ↔ ∀ k, k + 1 < ps.length → cmpI (ps.getD k zID) (ps.getD (k + 1) zID) < 0 := by
  induction ps with
  | nil => simp [asc]
  | cons x l ih =>
    cases l with
    | nil => simp [asc]
    | cons y l =>
      simp only [asc, Bool.and_eq_true, decide_eq_true_eq, ih]
      constructor
      · rintro ⟨h1, h2⟩ k hk
        cases k with
        | zero => simpa using h1
        | succ k => have := h2 k (by simpa using hk); simpa using this
      · intro h
        exact ⟨by simpa using h 0 (by simp), fun k hk => by simpa using h (k + 1) (by simpa using hk)⟩
theorem Sl.ad {w : World} {A : Option Addr} {l : List ID} (h : Sl w A (idc l)) (hl : 0 < l.length) : ∃ g off, A = some ⟨g, off, none⟩ := by
  obtain ⟨g, off, e, _⟩ := h (by intro h0; have := idc_length l; rw [h0] at this; simp at this; omega)
  exact ⟨g, off, e⟩

def RtR (w : World) (ps : List ID) (gk : Nat) (iv : Value) (wr : World) : Prop :=
  ∃ k : Nat, iv = .int .i64 ((k : Int) + 1) ∧ gk = ps.length - k ∧ Fr noB w wr ∧ (∀ j, j < k → cmpI (ps.getD j zID) (ps.getD (j + 1) zID) < 0) ∧ (k = 0 ∨ k < ps.length)

set_option maxRecDepth 100000 in
set_option maxHeartbeats 1000000 in
theorem right_any (w : World) (x : ID) (A : Option Addr) (c n : Nat) (ps : List ID) (hn : ps.length = n) (hs : Sl w A (idc ps)) (hb : ps.length ≤ 1000000000000) :
    Calls Try.prog 30 #[encI x, .slice A n c] w (Gives w (.bool (rightL x ps))) := by
  subst hn
  go_enter Try.func30, Try.ntmps30
  go_wp2
  go_loopg [5] ps.length (fun gk iv wr => RtR (w.alloc (ido x)) ps gk iv wr)
  case atStart => exact ⟨0, rfl, by simp, Fr.refl _ _, fun j hj => absurd hj (by omega), .inl rfl⟩
  case round =>
    obtain ⟨k, rfl, rfl, hf, hk, hkl⟩ := hrel
    have F1 : Fr noB w wr := ((Fr.refl noB w).alloc _).step0 hf
    have rx : rdI wr w.heap.size 0 = some x := rdI_fr (rdI_new w x) (by simp) hf (by simp [noB])
    by_cases hlt : k + 1 < ps.length
    · obtain ⟨g, off, rfl⟩ := hs.ad (by omega)
      have r1 : rdI wr.drew g (off + k * 32) = some (ps.getD k zID) := by
        rw [rdI_drew, (hs.fr0 F1).id k (by omega)]; simp [show k < ps.length by omega]
      have r2 : rdI wr.drew g (off + (k + 1) * 32) = some (ps.getD (k + 1) zID) := by
        rw [rdI_drew, (hs.fr0 F1).id (k + 1) hlt]; simp [hlt]
      have HK := Lib.hid hk
      clear hk
      have i1 : (k : Int) + 1 < ps.length := by omega
      have i0 : (k : Int) < ps.length := by omega
      have p0 : (0 : Int) ≤ (k : Int) := by omega
      have p1 : (0 : Int) ≤ (k : Int) + 1 := by omega
      have hw : IntKind.i64.wrap (k : Int) = k := by rw [IntKind.wrap_i64]; omega
      generalize ea : ps.getD k zID = pa at r1
      generalize eb : ps.getD (k + 1) zID = pb at r2
      have EA := Lib.hid ea
      have EB := Lib.hid eb
      clear ea eb
      go_wp2_with fail
      refine wp_region_N 10 (fun w' => rdI w' g (off + k * 32) = some pa ∧ rdI w' g (off + (k + 1) * 32) = some pb) (by kernel_rfl) (by kernel_rfl) ⟨r1, r2⟩ (fun hA hF => ?_)
      refine wpAnyN_take (i := 0) (v := ?_) hA rfl (by decide) (by kernel_rfl) (by kernel_rfl) (fun _ _ _ h => h) (Or.inl ⟨by rfl, ?_⟩) hF (fun hA => ?_)
      rotate_left
      · intro wS hSw; (try dsimp only at hSw); obtain ⟨s1, s2⟩ := hSw; first | (apply Eq.trans; apply ex_ld_id; exact rfl; exact rfl; assumption; with_reducible rfl) | (go_simp; try with_reducible rfl)
      try simp only [List.getElem_toArray, List.getElem_cons_zero, List.getElem_cons_succ, Act.put, List.setIfInBounds_toArray, List.set_cons_zero, List.set_cons_succ]
      refine wpAnyN_take (i := 1) (v := ?_) hA rfl (by decide) (by kernel_rfl) (by kernel_rfl) (fun _ _ _ h => h) (Or.inl ⟨by rfl, ?_⟩) hF (fun hA => ?_)
      rotate_left
      · intro wS hSw; (try dsimp only at hSw); obtain ⟨s1, s2⟩ := hSw; first | (apply Eq.trans; apply ex_ld_id; exact rfl; exact rfl; assumption; with_reducible rfl) | (go_simp; try with_reducible rfl)
      try simp only [List.getElem_toArray, List.getElem_cons_zero, List.getElem_cons_succ, Act.put, List.setIfInBounds_toArray, List.set_cons_zero, List.set_cons_succ]
      refine wpAnyN_take (i := 2) (v := ?_) hA rfl (by decide) (by kernel_rfl) (by kernel_rfl) (fun _ _ _ h => h) (Or.inl ⟨by rfl, ?_⟩) hF (fun hA => ?_)
      rotate_left
      · intro wS hSw; (try dsimp only at hSw); obtain ⟨s1, s2⟩ := hSw; first | (apply Eq.trans; apply ex_ld_id; exact rfl; exact rfl; assumption; with_reducible rfl) | (go_simp; try with_reducible rfl)
      try simp only [List.getElem_toArray, List.getElem_cons_zero, List.getElem_cons_succ, Act.put, List.setIfInBounds_toArray, List.set_cons_zero, List.set_cons_succ]
      refine wpAnyN_take (i := 3) (v := ?_) hA rfl (by decide) (by kernel_rfl) (by kernel_rfl) (fun _ _ _ h => h) (Or.inl ⟨by rfl, ?_⟩) hF (fun hA => ?_)
      rotate_left
      · intro wS hSw; (try dsimp only at hSw); obtain ⟨s1, s2⟩ := hSw; first | (apply Eq.trans; apply ex_ld_id; exact rfl; exact rfl; assumption; with_reducible rfl) | (go_simp; try with_reducible rfl)
      try simp only [List.getElem_toArray, List.getElem_cons_zero, List.getElem_cons_succ, Act.put, List.setIfInBounds_toArray, List.set_cons_zero, List.set_cons_succ]
      refine wpAnyN_take (i := 4) (v := ?_) hA rfl (by decide) (by kernel_rfl) (by kernel_rfl) (fun _ _ _ h => h) (Or.inl ⟨by rfl, ?_⟩) hF (fun hA => ?_)
      rotate_left
      · intro wS hSw; (try dsimp only at hSw); obtain ⟨s1, s2⟩ := hSw; first | (apply Eq.trans; apply ex_ld_id; exact rfl; exact rfl; assumption; with_reducible rfl) | (go_simp; try with_reducible rfl)
      try simp only [List.getElem_toArray, List.getElem_cons_zero, List.getElem_cons_succ, Act.put, List.setIfInBounds_toArray, List.set_cons_zero, List.set_cons_succ]
      refine wpAnyN_take (i := 5) (v := ?_) hA rfl (by decide) (by kernel_rfl) (by kernel_rfl) (fun _ _ _ h => h) (Or.inl ⟨by rfl, ?_⟩) hF (fun hA => ?_)
      rotate_left
      · intro wS hSw; (try dsimp only at hSw); obtain ⟨s1, s2⟩ := hSw; first | (apply Eq.trans; apply ex_ld_id; exact rfl; exact rfl; assumption; with_reducible rfl) | (go_simp; try with_reducible rfl)
      try simp only [List.getElem_toArray, List.getElem_cons_zero, List.getElem_cons_succ, Act.put, List.setIfInBounds_toArray, List.set_cons_zero, List.set_cons_succ]
      refine wpAnyN_take (i := 6) (v := ?_) hA rfl (by decide) (by kernel_rfl) (by kernel_rfl) (fun _ _ _ h => h) (Or.inl ⟨by rfl, ?_⟩) hF (fun hA => ?_)
      rotate_left
      · intro wS hSw; (try dsimp only at hSw); obtain ⟨s1, s2⟩ := hSw; first | (apply Eq.trans; apply ex_ld_id; exact rfl; exact rfl; assumption; with_reducible rfl) | (go_simp; try with_reducible rfl)
      try simp only [List.getElem_toArray, List.getElem_cons_zero, List.getElem_cons_succ, Act.put, List.setIfInBounds_toArray, List.set_cons_zero, List.set_cons_succ]
      refine wpAnyN_take (i := 7) (v := ?_) hA rfl (by decide) (by kernel_rfl) (by kernel_rfl) (fun _ _ _ h => h) (Or.inl ⟨by rfl, ?_⟩) hF (fun hA => ?_)
      rotate_left
      · intro wS hSw; (try dsimp only at hSw); obtain ⟨s1, s2⟩ := hSw; first | (apply Eq.trans; apply ex_ld_id; exact rfl; exact rfl; assumption; with_reducible rfl) | (go_simp; try with_reducible rfl)
      try simp only [List.getElem_toArray, List.getElem_cons_zero, List.getElem_cons_succ, Act.put, List.setIfInBounds_toArray, List.set_cons_zero, List.set_cons_succ]
      refine wpAnyN_take (i := 8) (v := ?_) hA rfl (by decide) (by kernel_rfl) (by kernel_rfl) (fun _ _ _ h => h) (Or.inl ⟨by rfl, ?_⟩) hF (fun hA => ?_)
      rotate_left
      · intro wS hSw; (try dsimp only at hSw); obtain ⟨s1, s2⟩ := hSw; first | (apply Eq.trans; apply ex_ld_id; exact rfl; exact rfl; assumption; with_reducible rfl) | (go_simp; try with_reducible rfl)
      try simp only [List.getElem_toArray, List.getElem_cons_zero, List.getElem_cons_succ, Act.put, List.setIfInBounds_toArray, List.set_cons_zero, List.set_cons_succ]
      refine wpAnyN_one (i := 9) hA (by kernel_rfl) (by decide) rfl (fun K hK => ?_)
      go_simp
      go_at_call 37
      refine (cmp_any _ pa pb).mono ?_
      rintro e w1 hcm
      have hf1 := hcm.fr
      obtain ⟨rfl, _⟩ := hcm
      have q1 := rdI_fr r1 (rdI_lt r1) hf1 (by simp [noB])
      have q2 := rdI_fr r2 (rdI_lt r2) hf1 (by simp [noB])
      refine hK.out _ _ ⟨q1, q2⟩ (fun hA => ?_)
      clear hK K
      refine wpAnyN_end rfl (by kernel_rfl) ?_
      simp only [List.drop_succ_cons, List.drop_zero]
      have F2 : Fr noB (w.alloc (ido x)) w1 := hf.drew.step0 hf1
      by_cases hc : 0 ≤ cmpI pa pb
      · go_wp2
        go_ret
        refine ⟨?_, ((Fr.refl noB w).alloc _).step0 F2⟩
        have : asc ps = false := by
          cases ha : asc ps with
          | false => rfl
          | true =>
            have := (asc_iff ps).1 ha k hlt
            rw [EA.out, EB.out] at this
            omega
        simp [rightL, this]
      · go_wp2
        go_roundg (ps.length - (k + 1))
        case measure => omega
        case rel =>
          refine ⟨k + 1, by simp, rfl, F2, fun j hj => ?_, .inr hlt⟩
          rcases Nat.lt_or_ge j k with h | h
          · exact HK.out j h
          · have : j = k := by omega
            subst this
            rw [EA.out, EB.out]
            omega
    · have i1 : ¬ ((k : Int) + 1 < ps.length) := by omega
      have ha : asc ps = true := (asc_iff ps).2 (fun j hj => hk j (by omega))
      have HA := Lib.hid ha
      clear ha hk
      by_cases hx : x = zID
      · go_wp2
        go_ret
        exact ⟨by simp [rightL], F1⟩
      · go_wp2
        go_ret
        refine ⟨?_, F1⟩
        have e : decide ((ps.length : Int) ≤ 2) = decide (ps.length ≤ 2) := by
          rw [decide_eq_decide]; omega
        simp [rightL, HA.out, hx, e]

/-- slices.Equal -/
def EqR (w : World) (l m : List ID) (gk : Nat) (iv : Value) (wr : World) : Prop :=
  ∃ k : Nat, iv = .int .i64 (k : Int) ∧ gk = l.length - k ∧ Fr noB w wr ∧ l.take k = m.take k ∧ k ≤ l.length
set_option maxRecDepth 100000 in
set_option maxHeartbeats 1000000 in
theorem equal_any (w : World) (A B : Option Addr) (c d n1 n2 : Nat) (l m : List ID) (h1 : l.length = n1) (h2 : m.length = n2) (hA : Sl w A (idc l)) (hB : Sl w B (idc m)) (hb : l.length ≤ 1000000000000) (hb2 : m.length ≤ 1000000000000) :
    Calls Try.prog 31 #[.slice A n1 c, .slice B n2 d] w (Gives w (.bool (decide (l = m)))) := by
  subst h1 h2
  by_cases hl : l.length = m.length
  · have hli : (l.length : Int) = m.length := by omega
    go_enter Try.func31, Try.ntmps31
    go_wp2
    go_loopg [13] l.length (fun gk iv wr => EqR w l m gk iv wr)
    case atStart => exact ⟨0, rfl, by simp, Fr.refl _ _, rfl, by omega⟩
    case round =>
      obtain ⟨k, rfl, rfl, hf, hk, hkl⟩ := hrel
      by_cases hlt : k < l.length
      · obtain ⟨g, off, rfl⟩ := hA.ad (by omega)
        obtain ⟨g2, off2, rfl⟩ := hB.ad (by omega)
        have r1 : rdI wr.drew g (off + k * 32) = some l[k] := by rw [rdI_drew, (hA.fr0 hf).id k hlt]
        have r2 : rdI wr.drew g2 (off2 + k * 32) = some (m[k]'(by omega)) := by rw [rdI_drew, (hB.fr0 hf).id k (by omega)]
        have HK := Lib.hid hk
        clear hk
        have i1 : (k : Int) < l.length := by omega
        have i2 : (k : Int) < m.length := by omega
        have p0 : (0 : Int) ≤ (k : Int) := by omega
        generalize ea : l[k] = pa at r1
        generalize eb : m[k]'(by omega) = pb at r2
        have EA := Lib.hid ea
        have EB := Lib.hid eb
        clear ea eb
        go_wp2_with fail
        refine wp_region_H (fun w' => rdI w' g (off + k * 32) = some pa ∧ rdI w' g2 (off2 + k * 32) = some pb) (by kernel_rfl) ⟨r1, r2⟩ (fun hF => ?_)
        refine wpAnyH_take (i := 0) (v := ?_) rfl (by kernel_rfl) (by kernel_rfl) (by kernel_rfl) (fun _ _ _ h => h) (Or.inl ⟨by rfl, ?_⟩) hF ?_
        rotate_left
        · intro wS hSw; (try dsimp only at hSw); obtain ⟨s1, s2⟩ := hSw; first | (apply Eq.trans; apply ex_ld_id; exact rfl; exact rfl; assumption; with_reducible rfl) | (go_simp; try with_reducible rfl)
        try simp only [List.getElem_toArray, List.getElem_cons_zero, List.getElem_cons_succ, Act.put, List.setIfInBounds_toArray, List.set_cons_zero, List.set_cons_succ]
        refine wpAnyH_take (i := 1) (v := ?_) rfl (by kernel_rfl) (by kernel_rfl) (by kernel_rfl) (fun _ _ _ h => h) (Or.inl ⟨by rfl, ?_⟩) hF ?_
        rotate_left
        · intro wS hSw; (try dsimp only at hSw); obtain ⟨s1, s2⟩ := hSw; first | (apply Eq.trans; apply ex_ld_id; exact rfl; exact rfl; assumption; with_reducible rfl) | (go_simp; try with_reducible rfl)
        try simp only [List.getElem_toArray, List.getElem_cons_zero, List.getElem_cons_succ, Act.put, List.setIfInBounds_toArray, List.set_cons_zero, List.set_cons_succ]
        refine wpAnyH_take (i := 2) (v := ?_) rfl (by kernel_rfl) (by kernel_rfl) (by kernel_rfl) (fun _ _ _ h => h) (Or.inl ⟨by rfl, ?_⟩) hF ?_
        rotate_left
        · intro wS hSw; (try dsimp only at hSw); obtain ⟨s1, s2⟩ := hSw; first | (apply Eq.trans; apply ex_ld_id; exact rfl; exact rfl; assumption; with_reducible rfl) | (go_simp; try with_reducible rfl)
        try simp only [List.getElem_toArray, List.getElem_cons_zero, List.getElem_cons_succ, Act.put, List.setIfInBounds_toArray, List.set_cons_zero, List.set_cons_succ]
        refine wpAnyH_take (i := 3) (v := ?_) rfl (by kernel_rfl) (by kernel_rfl) (by kernel_rfl) (fun _ _ _ h => h) (Or.inl ⟨by rfl, ?_⟩) hF ?_
        rotate_left
        · intro wS hSw; (try dsimp only at hSw); obtain ⟨s1, s2⟩ := hSw; first | (apply Eq.trans; apply ex_ld_id; exact rfl; exact rfl; assumption; with_reducible rfl) | (go_simp; try with_reducible rfl)
        try simp only [List.getElem_toArray, List.getElem_cons_zero, List.getElem_cons_succ, Act.put, List.setIfInBounds_toArray, List.set_cons_zero, List.set_cons_succ]
        refine wpAnyH_take (i := 4) (v := ?_) rfl (by kernel_rfl) (by kernel_rfl) (by kernel_rfl) (fun _ _ _ h => h) (Or.inl ⟨by rfl, ?_⟩) hF ?_
        rotate_left
        · intro wS hSw; (try dsimp only at hSw); obtain ⟨s1, s2⟩ := hSw; first | (apply Eq.trans; apply ex_ld_id; exact rfl; exact rfl; assumption; with_reducible rfl) | (go_simp; try with_reducible rfl)
        try simp only [List.getElem_toArray, List.getElem_cons_zero, List.getElem_cons_succ, Act.put, List.setIfInBounds_toArray, List.set_cons_zero, List.set_cons_succ]
        refine wpAnyH_take (i := 5) (v := ?_) rfl (by kernel_rfl) (by kernel_rfl) (by kernel_rfl) (fun _ _ _ h => h) (Or.inl ⟨by rfl, ?_⟩) hF ?_
        rotate_left
        · intro wS hSw; (try dsimp only at hSw); obtain ⟨s1, s2⟩ := hSw; first | (apply Eq.trans; apply ex_ld_id; exact rfl; exact rfl; assumption; with_reducible rfl) | (go_simp; try with_reducible rfl)
        try simp only [List.getElem_toArray, List.getElem_cons_zero, List.getElem_cons_succ, Act.put, List.setIfInBounds_toArray, List.set_cons_zero, List.set_cons_succ]
        refine wpAnyH_take (i := 6) (v := ?_) rfl (by kernel_rfl) (by kernel_rfl) (by kernel_rfl) (fun _ _ _ h => h) (Or.inl ⟨by rfl, ?_⟩) hF ?_
        rotate_left
        · intro wS hSw; (try dsimp only at hSw); obtain ⟨s1, s2⟩ := hSw; first | (apply Eq.trans; apply ex_ld_id; exact rfl; exact rfl; assumption; with_reducible rfl) | (go_simp; try with_reducible rfl)
        try simp only [List.getElem_toArray, List.getElem_cons_zero, List.getElem_cons_succ, Act.put, List.setIfInBounds_toArray, List.set_cons_zero, List.set_cons_succ]
        refine wpAnyH_take (i := 7) (v := ?_) rfl (by kernel_rfl) (by kernel_rfl) (by kernel_rfl) (fun _ _ _ h => h) (Or.inl ⟨by rfl, ?_⟩) hF ?_
        rotate_left
        · intro wS hSw; (try dsimp only at hSw); obtain ⟨s1, s2⟩ := hSw; first | (apply Eq.trans; apply ex_ld_id; exact rfl; exact rfl; assumption; with_reducible rfl) | (go_simp; try with_reducible rfl)
        try simp only [List.getElem_toArray, List.getElem_cons_zero, List.getElem_cons_succ, Act.put, List.setIfInBounds_toArray, List.set_cons_zero, List.set_cons_succ]
        refine wpAnyH_take (i := 8) (v := ?_) rfl (by kernel_rfl) (by kernel_rfl) (by kernel_rfl) (fun _ _ _ h => h) (Or.inl ⟨by rfl, ?_⟩) hF ?_
        rotate_left
        · intro wS hSw; (try dsimp only at hSw); obtain ⟨s1, s2⟩ := hSw; first | (apply Eq.trans; apply ex_ld_id; exact rfl; exact rfl; assumption; with_reducible rfl) | (go_simp; try with_reducible rfl)
        try simp only [List.getElem_toArray, List.getElem_cons_zero, List.getElem_cons_succ, Act.put, List.setIfInBounds_toArray, List.set_cons_zero, List.set_cons_succ]
        refine wpAnyH_done (by kernel_rfl) ?_ _
        clear hF
        by_cases hab : pa = pb
        · subst hab
          go_wp2
          go_roundg (l.length - (k + 1))
          case measure => omega
          case rel =>
            refine ⟨k + 1, by simp, rfl, hf.drew, ?_, by omega⟩
            rw [List.take_add_one, List.take_add_one, HK.out, List.getElem?_eq_getElem hlt, List.getElem?_eq_getElem (by omega), EA.out, EB.out]
        · have hd : decide (pa = pb) = false := by simp [hab]
          have hab2 := Lib.hid hab
          clear hab
          go_wp2
          go_ret
          refine ⟨?_, hf.drew⟩
          have hab := hab2.out
          have : l ≠ m := by
            rintro rfl
            exact hab (EA.out.symm.trans EB.out)
          simp [this]
          exfalso
          simp_all
      · have i1 : ¬ (k : Int) < l.length := by omega
        have e : l = m := by
          have e1 : k = l.length := by omega
          rw [e1, List.take_length, hl, List.take_length] at hk
          exact hk
        have E := Lib.hid e
        clear e hk
        go_wp2
        go_ret
        exact ⟨by simp [E.out], hf⟩
  · have hli : ¬ (l.length : Int) = m.length := by omega
    go_enter Try.func31, Try.ntmps31
    go_wp2
    go_ret
    exact ⟨by have : l ≠ m := fun e => hl (by rw [e])
              simp [this], Fr.refl _ _⟩
end Go.Proofs.Ytchiclnnoealdaa
