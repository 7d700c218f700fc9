/- Contract: obj.Kind. -/
import Derived.Test.YtejkfekpgbmdiaaGreatRdC
import Derived.Test.YtejkfekpgbmdiaaGreatRdQ
namespace Go.Proofs.YtejkfekpgbmdiaaGreat
open Go.RowKit
set_option linter.unusedVariables false
set_option linter.unusedSimpArgs false

/-- the kind, by the first byte -/
theorem kindO_eq (b : UInt8) (t : List UInt8) : kindO (b :: t) = if b = 1 then (if (rdBl (b :: t)).isSome then 1 else 0) else if b = 2 then (if (rdDr (b :: t)).isSome then 2 else 0) else if b = 3 then (if (rdCh (b :: t)).isSome then 3 else 0) else if b = 4 then (if (rdLb (b :: t)).isSome then 4 else 0) else 0 := by
  have hb : b ≠ 1 → rdBl (b :: t) = none := fun h => by simp [rdBl, h]
  have hw : ∀ {α : Type} {f : RS → α × RS} (hf : Ext f) (k : UInt8) (p : α → Bool), b ≠ k → whole f k p (b :: t) = none := fun hf k p h => by
    cases hx : whole _ k p (b :: t) with
    | none => rfl
    | some x =>
      obtain ⟨l, hl⟩ := whole_head hf hx
      injection hl with h1 _
      exact absurd h1 h
  have hd : b ≠ 2 → rdDr (b :: t) = none := fun h => by rw [rdDr_eq]; exact hw Ext.dr 2 rightDr h
  have hc : b ≠ 3 → rdCh (b :: t) = none := fun h => by rw [rdCh_eq]; exact hw Ext.ch 3 rightCh h
  have hl : b ≠ 4 → rdLb (b :: t) = none := fun h => by rw [rdLb_eq]; exact hw Ext.lb 4 rightLb h
  unfold kindO
  by_cases h1 : b = 1
  · subst h1
    rw [hd (by decide), hc (by decide), hl (by decide)]
    simp
  · rw [hb h1, if_neg h1]
    by_cases h2 : b = 2
    · subst h2
      rw [hc (by decide), hl (by decide)]
      simp
    · rw [hd h2, if_neg h2]
      by_cases h3 : b = 3
      · subst h3
        rw [hl (by decide)]
        simp
      · rw [hc h3, if_neg h3]
        by_cases h4 : b = 4
        · subst h4; simp
        · rw [hl h4, if_neg h4]; simp
set_option maxRecDepth 100000 in
set_option maxHeartbeats 2000000 in
theorem kind_any (w : World) (A : Option Addr) (c n : Nat) (l : List UInt8) (hn : l.length = n) (hs : Sl w A (bv l)) (hcap : l.length ≤ c) (hb : l.length ≤ 140737488355328) : Calls Tryz.prog 14 #[.slice A n c] w (Gives w (.int .i64 (kindO l : Nat))) := by
  subst hn
  cases l with
  | nil =>
    have e : Hid ((kindO [] : Nat) = 0) := Lib.hid (by unfold kindO; simp [rdBl, rdDr, rdCh, rdLb]; decide)
    go_enter Tryz.func14, Tryz.ntmps14
    go_wp2_with fail
    go_ret
    exact ⟨by rw [e.out]; rfl, Fr.refl _ _⟩
  | cons b t =>
    have hK := Lib.hid (kindO_eq b t)
    have hB := Lib.hid (blob_any w A c (b :: t).length (b :: t) rfl hs hcap hb)
    have hD := Lib.hid (dir_any w A c (b :: t).length (b :: t) rfl hs hcap hb)
    have hC := Lib.hid (change_any w A c (b :: t).length (b :: t) rfl hs hcap hb)
    have hL := Lib.hid (label_any w A c (b :: t).length (b :: t) rfl hs hcap hb)
    obtain ⟨g, off, rfl, hg, hcell⟩ := hs (by simp [bv_cons])
    have hc0 : w.cell? ⟨g, off, none⟩ = some (.int .u8 (b.toNat : Int)) := hcell 0 _ (bv_get (b :: t) 0 (by simp))
    have i1 : (0 : Int) < ((b :: t).length : Int) := by simp only [List.length_cons]; omega
    have i0 : (((b :: t).length : Int) == 0) = false := by rw [beq_eq_false_iff_ne]; omega
    have hlt : b.toNat < 256 := b.toNat_lt
    have hcv : IntKind.i64.wrap (b.toNat : Int) = (b.toNat : Int) := by rw [IntKind.wrap_i64]; omega
    have n1 : ∀ k : UInt8, ((b.toNat : Int) == (k.toNat : Int)) = decide (b = k) := fun k => by
      rw [Bool.eq_iff_iff, beq_iff_eq, decide_eq_true_eq]
      exact ⟨fun h => UInt8.toNat_inj.1 (by omega), fun h => by rw [h]⟩
    have e1 : ((b.toNat : Int) == 1) = decide (b = 1) := n1 1
    have e2 : ((b.toNat : Int) == 2) = decide (b = 2) := n1 2
    have e3 : ((b.toNat : Int) == 3) = decide (b = 3) := n1 3
    have e4 : ((b.toNat : Int) == 4) = decide (b = 4) := n1 4
    have bb1 : b = 1 → b.toNat = 1 := fun h => by rw [h]; rfl
    have bb2 : b = 2 → b.toNat = 2 := fun h => by rw [h]; rfl
    have bb3 : b = 3 → b.toNat = 3 := fun h => by rw [h]; rfl
    have bb4 : b = 4 → b.toNat = 4 := fun h => by rw [h]; rfl
    have NB := Lib.hid (And.intro bb1 (And.intro bb2 (And.intro bb3 bb4)))
    clear hs hcell n1 bb1 bb2 bb3 bb4 hcap hb
    generalize (b :: t).length = m at hB hD hC hL i0 i1 ⊢
    generalize b.toNat = bn at hc0 hcv e1 e2 e3 e4 NB hlt
    generalize (b :: t) = l at hK hB hD hC hL
    by_cases h1 : b = 1
    · have h := h1
      have E1 : ((bn : Int) == 1) = true := by rw [e1]; simp [h]
      have E2 : ((bn : Int) == 2) = false := by rw [e2]; simp [h]
      have E3 : ((bn : Int) == 3) = false := by rw [e3]; simp [h]
      have E4 : ((bn : Int) == 4) = false := by rw [e4]; simp [h]
      have HBN := Lib.hid (NB.out.1 h)
      have HK2 := Lib.hid (show kindO l = if (rdBl l).isSome then 1 else 0 by rw [hK.out]; simp [h])
      cases hx : (rdBl l).isSome with
      | true =>
        have HX := Lib.hid hx
        have HK3 := Lib.hid (show ((kindO l : Nat) : Int) = (bn : Int) by rw [HK2.out, HX.out, HBN.out]; rfl)
        clear e1 e2 e3 e4 h hx hK
        go_enter Tryz.func14, Tryz.ntmps14
        go_wp2_with (go_at_call 11; refine hB.out.mono ?_; rintro e w1 ⟨A1, c1, rfl, ho, hf⟩; rw [HX.out]; have hc1 := cell_fr0 hc0 hf)
        go_ret
        exact ⟨by rw [HK3.out]; rfl, hf⟩
      | false =>
        have HX := Lib.hid hx
        have HK3 := Lib.hid (show ((kindO l : Nat) : Int) = 0 by rw [HK2.out, HX.out]; rfl)
        clear e1 e2 e3 e4 h hx hK
        go_enter Tryz.func14, Tryz.ntmps14
        go_wp2_with (go_at_call 11; refine hB.out.mono ?_; rintro e w1 ⟨A1, c1, rfl, ho, hf⟩; rw [HX.out]; have hc1 := cell_fr0 hc0 hf)
        go_ret
        exact ⟨by rw [HK3.out]; rfl, hf⟩
    · by_cases h2 : b = 2
      · have h := h2
        have E1 : ((bn : Int) == 1) = false := by rw [e1]; simp [h]
        have E2 : ((bn : Int) == 2) = true := by rw [e2]; simp [h]
        have E3 : ((bn : Int) == 3) = false := by rw [e3]; simp [h]
        have E4 : ((bn : Int) == 4) = false := by rw [e4]; simp [h]
        have HBN := Lib.hid (NB.out.2.1 h)
        have HK2 := Lib.hid (show kindO l = if (rdDr l).isSome then 2 else 0 by rw [hK.out]; simp [h])
        cases hx : (rdDr l).isSome with
        | true =>
          have HX := Lib.hid hx
          have HK3 := Lib.hid (show ((kindO l : Nat) : Int) = (bn : Int) by rw [HK2.out, HX.out, HBN.out]; rfl)
          clear e1 e2 e3 e4 h hx hK
          go_enter Tryz.func14, Tryz.ntmps14
          go_wp2_with (go_at_call 17; refine hD.out.mono ?_; rintro e w1 ⟨A1, c1, rs, rfl, hf, ho, hi⟩; rw [HX.out]; have hc1 := cell_fr0 hc0 hf)
          go_ret
          exact ⟨by rw [HK3.out]; rfl, hf⟩
        | false =>
          have HX := Lib.hid hx
          have HK3 := Lib.hid (show ((kindO l : Nat) : Int) = 0 by rw [HK2.out, HX.out]; rfl)
          clear e1 e2 e3 e4 h hx hK
          go_enter Tryz.func14, Tryz.ntmps14
          go_wp2_with (go_at_call 17; refine hD.out.mono ?_; rintro e w1 ⟨A1, c1, rs, rfl, hf, ho, hi⟩; rw [HX.out]; have hc1 := cell_fr0 hc0 hf)
          go_ret
          exact ⟨by rw [HK3.out]; rfl, hf⟩
      · by_cases h3 : b = 3
        · have h := h3
          have E1 : ((bn : Int) == 1) = false := by rw [e1]; simp [h]
          have E2 : ((bn : Int) == 2) = false := by rw [e2]; simp [h]
          have E3 : ((bn : Int) == 3) = true := by rw [e3]; simp [h]
          have E4 : ((bn : Int) == 4) = false := by rw [e4]; simp [h]
          have HBN := Lib.hid (NB.out.2.2.1 h)
          have HK2 := Lib.hid (show kindO l = if (rdCh l).isSome then 3 else 0 by rw [hK.out]; simp [h])
          cases hx : (rdCh l).isSome with
          | true =>
            have HX := Lib.hid hx
            have HK3 := Lib.hid (show ((kindO l : Nat) : Int) = (bn : Int) by rw [HK2.out, HX.out, HBN.out]; rfl)
            clear e1 e2 e3 e4 h hx hK
            go_enter Tryz.func14, Tryz.ntmps14
            go_wp2_with (go_at_call 25; refine hC.out.mono ?_; rintro e w1 ⟨r1, rs, rfl, hf, ho, hi⟩; rw [HX.out]; have hc1 := cell_fr0 hc0 hf)
            go_ret
            exact ⟨by rw [HK3.out]; rfl, hf⟩
          | false =>
            have HX := Lib.hid hx
            have HK3 := Lib.hid (show ((kindO l : Nat) : Int) = 0 by rw [HK2.out, HX.out]; rfl)
            clear e1 e2 e3 e4 h hx hK
            go_enter Tryz.func14, Tryz.ntmps14
            go_wp2_with (go_at_call 25; refine hC.out.mono ?_; rintro e w1 ⟨r1, rs, rfl, hf, ho, hi⟩; rw [HX.out]; have hc1 := cell_fr0 hc0 hf)
            go_ret
            exact ⟨by rw [HK3.out]; rfl, hf⟩
        · by_cases h4 : b = 4
          · have h := h4
            have E1 : ((bn : Int) == 1) = false := by rw [e1]; simp [h]
            have E2 : ((bn : Int) == 2) = false := by rw [e2]; simp [h]
            have E3 : ((bn : Int) == 3) = false := by rw [e3]; simp [h]
            have E4 : ((bn : Int) == 4) = true := by rw [e4]; simp [h]
            have HBN := Lib.hid (NB.out.2.2.2 h)
            have HK2 := Lib.hid (show kindO l = if (rdLb l).isSome then 4 else 0 by rw [hK.out]; simp [h])
            cases hx : (rdLb l).isSome with
            | true =>
              have HX := Lib.hid hx
              have HK3 := Lib.hid (show ((kindO l : Nat) : Int) = (bn : Int) by rw [HK2.out, HX.out, HBN.out]; rfl)
              clear e1 e2 e3 e4 h hx hK
              go_enter Tryz.func14, Tryz.ntmps14
              go_wp2_with (go_at_call 30; refine hL.out.mono ?_; rintro e w1 ⟨rfl, hf⟩; rw [HX.out]; have hc1 := cell_fr0 hc0 hf)
              go_ret
              exact ⟨by rw [HK3.out]; rfl, hf⟩
            | false =>
              have HX := Lib.hid hx
              have HK3 := Lib.hid (show ((kindO l : Nat) : Int) = 0 by rw [HK2.out, HX.out]; rfl)
              clear e1 e2 e3 e4 h hx hK
              go_enter Tryz.func14, Tryz.ntmps14
              go_wp2_with (go_at_call 30; refine hL.out.mono ?_; rintro e w1 ⟨rfl, hf⟩; rw [HX.out]; have hc1 := cell_fr0 hc0 hf)
              go_ret
              exact ⟨by rw [HK3.out]; rfl, hf⟩
          · have E1 : ((bn : Int) == 1) = false := by rw [e1]; simp [h1]
            have E2 : ((bn : Int) == 2) = false := by rw [e2]; simp [h2]
            have E3 : ((bn : Int) == 3) = false := by rw [e3]; simp [h3]
            have E4 : ((bn : Int) == 4) = false := by rw [e4]; simp [h4]
            have HK3 := Lib.hid (show ((kindO l : Nat) : Int) = 0 by rw [hK.out, if_neg h1, if_neg h2, if_neg h3, if_neg h4]; rfl)
            clear e1 e2 e3 e4 h1 h2 h3 h4 hK
            go_enter Tryz.func14, Tryz.ntmps14
            go_wp2_with fail
            go_ret
            exact ⟨by rw [HK3.out]; rfl, Fr.refl _ _⟩
end Go.Proofs.YtejkfekpgbmdiaaGreat
