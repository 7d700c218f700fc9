/- Contracts: the references' reader of numbers (as Ref2; what is left lies where the bytes lay). -/
import Derived.Test.YtejkfekpgbmdiaaGreatRef1
import Derived.RegionTactic
namespace Go.Proofs.YtejkfekpgbmdiaaGreat
open Go.RowKit
set_option linter.unusedVariables false
set_option linter.unusedSimpArgs false

theorem failed_any (w : World) : Calls Tryz.prog 108 #[] w fun e w' => e = .returned (.agg #[.slice none 0 0, .bool true]) ∧ w' = w.alloc (.cells #[.slice none 0 0, .bool true] 110) := by
  go_enter Tryz.func108, Tryz.ntmps108
  go_wp2
  exact bodyPost_ret (v := .agg #[.slice none 0 0, .bool true]) (by simp [results, Tryz.results108, go_sem]) rfl ⟨rfl, rfl⟩

theorem cutA_blk (A : Option Addr) (c k s : Nat) : (cutA A c k s).map (·.block) = A.map (·.block) := by
  unfold cutA
  split
  · rfl
  · cases A with
    | none => rfl
    | some a => simp only [Option.map_some, Addr.add]; split <;> rfl
/-- a number and a reader's value come out -/
def InToB (w : World) (A0 : Option Addr) (r : Nat × RS) (e : Ending) (w' : World) : Prop :=
  ∃ A c, e = .returned (.tuple #[.int .i64 r.1, .agg #[.slice A r.2.1.length c, .bool r.2.2]]) ∧ r.2.1.length ≤ c ∧ Sl w' A (bv r.2.1) ∧ Fr noB w w' ∧ ∀ b, A.map (·.block) = some b → A0.map (·.block) = some b

set_option maxRecDepth 100000 in
set_option maxHeartbeats 4000000 in
theorem getnum_any (w : World) (A : Option Addr) (c : Nat) (s : RS) (most : Nat) (hm : most ≤ 4611686018427387904) (hs : Sl w A (bv s.1)) (hc : s.1.length ≤ c) (hlen : s.1.length ≤ 140737488355328) :
    Calls Tryz.prog 72 #[.agg #[.slice A s.1.length c, .bool s.2], .int .i64 most] w (InToB w A (rdNum most s)) := by
  obtain ⟨l, bad⟩ := s
  simp only at hs hc hlen ⊢
  go_enter Tryz.func72, Tryz.ntmps72
  go_wp2
  go_loop [6, 7, 8, 9] (fun nv uv iv _ => ∃ (i u un : Nat), i ≤ 9 ∧ i ≤ l.length ∧ nv = .int .i64 u ∧ uv = .int .i64 un ∧ iv = .int .i64 i ∧ Hid (u < 128 ^ i) ∧ Hid (i < 9 → un = 128 ^ i) ∧ un ≤ 72057594037927936 ∧ Hid (rn most 0 0 (l, bad) = rn most i u (l.drop i, bad)))
    (fun _ _ iv _ => 9 - (intOf iv).toNat)
  case atStart => exact ⟨0, 0, 1, by omega, by omega, rfl, rfl, rfl, by simp [Hid], by simp [Hid], by omega, by simp [Hid]⟩
  case round =>
    obtain ⟨i, u, un, hi, hil, rfl, rfl, rfl, HU, HUN, hun, HR⟩ := hrel
    by_cases hgo : i < 9 ∧ i < l.length ∧ bad = false
    · obtain ⟨hi9, hlt, rfl⟩ := hgo
      obtain ⟨g, off, rfl, hg, hcell⟩ := hs.bytes (by omega)
      have c1 := hcell i hlt
      have hcons : l.drop i = l[i] :: l.drop (i + 1) := List.drop_eq_getElem_cons hlt
      generalize l[i] = b at c1 hcons
      have hb : b.toNat < 256 := b.toNat_lt
      have hrn := rn_cons most i u b (l.drop (i + 1)) hi9
      have hst := num_step b.toNat u i hi9 HU.out
      have hx : ((b.toNat : Int) % 128 * (un : Int)) = ((b.toNat % 128 * 128 ^ i : Nat) : Int) := by rw [HUN.out hi9]; simp
      have hxl : b.toNat % 128 * 128 ^ i ≤ 127 * 72057594037927936 := Nat.mul_le_mul (by omega) (pow128_le i hi9)
      have hx8 : 8 ≤ i → 64 < b.toNat % 128 → 4611686018427387904 < b.toNat % 128 * 128 ^ i := by
        intro h1 h2
        obtain rfl : i = 8 := by omega
        have : (128 : Nat) ^ 8 = 72057594037927936 := by decide
        rw [this]; omega
      have hx8' : i ≤ 7 → 128 ^ i ≤ 562949953421312 := by
        intro h1
        calc 128 ^ i ≤ 128 ^ 7 := Nat.pow_le_pow_right (by decide) h1
          _ = 562949953421312 := by decide
      rw [← hcons] at hrn
      generalize b.toNat % 128 * 128 ^ i = x at hrn hst hx hxl hx8
      obtain ⟨hu1, hu2⟩ := hst
      have HU1 := Lib.hid hu1
      have HRN := Lib.hid hrn
      have HX8 := Lib.hid hx8
      have HX8' := Lib.hid hx8'
      clear hcell hcons hrn hu1 hx8 hx8'
      have h1281 : 128 ≤ b.toNat → rn most 0 0 (l, false) = rn most (i + 1) (u + x) (l.drop (i + 1), false) := fun h => HR.out.trans (HRN.out.trans (if_pos h))
      have h1282 : ¬ 128 ≤ b.toNat → (4611686018427387904 < u + x ∨ most < u + x ∨ (b.toNat = 0 ∧ 0 < i)) → rn most 0 0 (l, false) = none := fun h h' => HR.out.trans (HRN.out.trans ((if_neg h).trans (if_pos h')))
      have h1283 : ¬ 128 ≤ b.toNat → ¬ (4611686018427387904 < u + x ∨ most < u + x ∨ (b.toNat = 0 ∧ 0 < i)) → rn most 0 0 (l, false) = some (u + x, l.drop (i + 1)) := fun h h' => HR.out.trans (HRN.out.trans ((if_neg h).trans (if_neg h')))
      have H1 := Lib.hid h1281
      have H2 := Lib.hid h1282
      have H3 := Lib.hid h1283
      clear h1281 h1282 h1283 HRN HR
      rcases (show i < 8 ∨ i = 8 by omega) with hi8 | hi8
      · have e8 : ((i : Int) == 8) = false := by rw [beq_eq_false_iff_ne]; omega
        by_cases h128 : 128 ≤ b.toNat
        · have hun' : un ≤ 562949953421312 := by rw [HUN.out hi9]; exact HX8'.out (by omega)
          go_wp2
          go_round
          case rel => exact ⟨i + 1, u + x, un * 128, by omega, by omega, by go_num, by go_num, by go_num, HU1.out, by intro _; rw [HUN.out hi9, Nat.pow_succ], by omega, H1.out h128⟩
          case measure => simp [intOf]; omega
        · by_cases hbad : 4611686018427387904 < u + x ∨ most < u + x ∨ (b.toNat = 0 ∧ 0 < i)
          · have HN := Lib.hid (H2.out h128 hbad)
            rcases (show (b.toNat ≤ 0 ∧ 0 < i) ∨ ((1 ≤ b.toNat ∨ i ≤ 0) ∧ 4611686018427387904 < u + x) ∨ ((1 ≤ b.toNat ∨ i ≤ 0) ∧ u + x ≤ 4611686018427387904 ∧ most < u + x) by omega) with ⟨h0, h1⟩ | ⟨h0 | h0, h1⟩ | ⟨h0 | h0, h1, h2⟩
            all_goals
              clear hbad
              have e0 : ((b.toNat : Int) == 0) = decide (b.toNat = 0) := by rw [Bool.eq_iff_iff]; simp
              go_wp2_with (go_at_call 108; refine (failed_any _).mono ?_; rintro e w' ⟨rfl, rfl⟩)
              all_goals
                refine bodyPost_ret (v := .tuple #[.int .i64 0, .agg #[.slice none 0 0, .bool true]]) (by simp [results, Tryz.results72, go_sem]) rfl ?_
                rw [rdNum_none HN.out]
                exact ⟨none, 0, rfl, Nat.le_refl _, Sl.nil _ _, (by repeat (first | exact Fr.refl _ _ | refine Fr.alloc ?_ _ | refine Fr.drew ?_ | refine Fr.drewN ?_ _)), fun b hb => by cases hb⟩
          · have HN := Lib.hid (H3.out h128 hbad)
            have h1 : u + x ≤ 4611686018427387904 := by omega
            have h2 : u + x ≤ most := by omega
            have h3 : 1 ≤ b.toNat ∨ i ≤ 0 := by omega
            clear hbad
            rcases h3 with h3 | h3
            all_goals
              go_wp2
              all_goals
                by_cases hci : c = (i + 1)
                all_goals
                 go_region
                 all_goals
                  go_wp2
                  refine bodyPost_ret (v := .tuple #[.int .i64 (↑u + ↑x), .agg #[.slice (cutA (some ⟨g, off, none⟩) c (i + 1) 1) (l.length - (i + 1)) (c - (i + 1)), .bool false]]) (by simp [results, Tryz.results72, go_sem, cutA, hci]) rfl ?_
                  rw [rdNum_some HN.out]
                  exact ⟨cutA (some ⟨g, off, none⟩) c (i + 1) 1, c - (i + 1), by simp, by simp only [List.length_drop]; omega, (hs.cutB hc).fr0 (by repeat (first | exact Fr.refl _ _ | refine Fr.alloc ?_ _ | refine Fr.drew ?_ | refine Fr.drewN ?_ _)), (by repeat (first | exact Fr.refl _ _ | refine Fr.alloc ?_ _ | refine Fr.drew ?_ | refine Fr.drewN ?_ _)), fun b hb => by rw [cutA_blk] at hb; exact hb⟩
      · subst hi8
        by_cases h64 : 64 < b.toNat % 128
        · have HN : Hid (rn most 0 0 (l, false) = none) := by
            have := HX8.out (Nat.le_refl _) h64
            by_cases h128 : 128 ≤ b.toNat
            · exact (H1.out h128).trans (rn_nine _ _ _)
            · exact H2.out h128 (.inl (by omega))
          go_wp2_with (go_at_call 108; refine (failed_any _).mono ?_; rintro e w' ⟨rfl, rfl⟩)
          all_goals
            refine bodyPost_ret (v := .tuple #[.int .i64 0, .agg #[.slice none 0 0, .bool true]]) (by simp [results, Tryz.results72, go_sem]) rfl ?_
            rw [rdNum_none HN.out]
            exact ⟨none, 0, rfl, Nat.le_refl _, Sl.nil _ _, (by repeat (first | exact Fr.refl _ _ | refine Fr.alloc ?_ _ | refine Fr.drew ?_ | refine Fr.drewN ?_ _)), fun b hb => by cases hb⟩
        · have h64' : b.toNat % 128 ≤ 64 := by omega
          by_cases h128 : 128 ≤ b.toNat
          · go_wp2
            go_round
            case rel => exact ⟨9, u + x, un, by omega, by omega, by go_num, by go_num, by go_num, HU1.out, by intro _; omega, by omega, H1.out h128⟩
            case measure => simp [intOf]
          · by_cases hbad : 4611686018427387904 < u + x ∨ most < u + x ∨ (b.toNat = 0 ∧ 0 < 8)
            · have HN := Lib.hid (H2.out h128 hbad)
              rcases (show (b.toNat ≤ 0) ∨ ((1 ≤ b.toNat) ∧ 4611686018427387904 < u + x) ∨ ((1 ≤ b.toNat) ∧ u + x ≤ 4611686018427387904 ∧ most < u + x) by omega) with h0 | ⟨h0, h1⟩ | ⟨h0, h1, h2⟩
              all_goals
                clear hbad
                have e0 : ((b.toNat : Int) == 0) = decide (b.toNat = 0) := by rw [Bool.eq_iff_iff]; simp
                go_wp2_with (go_at_call 108; refine (failed_any _).mono ?_; rintro e w' ⟨rfl, rfl⟩)
                all_goals
                  refine bodyPost_ret (v := .tuple #[.int .i64 0, .agg #[.slice none 0 0, .bool true]]) (by simp [results, Tryz.results72, go_sem]) rfl ?_
                  rw [rdNum_none HN.out]
                  exact ⟨none, 0, rfl, Nat.le_refl _, Sl.nil _ _, (by repeat (first | exact Fr.refl _ _ | refine Fr.alloc ?_ _ | refine Fr.drew ?_ | refine Fr.drewN ?_ _)), fun b hb => by cases hb⟩
            · have HN := Lib.hid (H3.out h128 hbad)
              have h1 : u + x ≤ 4611686018427387904 := by omega
              have h2 : u + x ≤ most := by omega
              have h3 : 1 ≤ b.toNat := by omega
              clear hbad
              go_wp2
              all_goals
                by_cases hci : c = 9
                all_goals
                 go_region
                 all_goals
                  go_wp2
                  refine bodyPost_ret (v := .tuple #[.int .i64 (↑u + ↑x), .agg #[.slice (cutA (some ⟨g, off, none⟩) c 9 1) (l.length - 9) (c - 9), .bool false]]) (by simp [results, Tryz.results72, go_sem, cutA, hci]) rfl ?_
                  rw [rdNum_some HN.out]
                  exact ⟨cutA (some ⟨g, off, none⟩) c 9 1, c - 9, by simp, by simp only [List.length_drop]; omega, (hs.cutB hc).fr0 (by repeat (first | exact Fr.refl _ _ | refine Fr.alloc ?_ _ | refine Fr.drew ?_ | refine Fr.drewN ?_ _)), (by repeat (first | exact Fr.refl _ _ | refine Fr.alloc ?_ _ | refine Fr.drew ?_ | refine Fr.drewN ?_ _)), fun b hb => by rw [cutA_blk] at hb; exact hb⟩
    · have hn : rn most 0 0 (l, bad) = none := by
        rw [HR.out]
        by_cases h9 : i = 9
        · subst h9; exact rn_nine _ _ _
        · exact rn_bad (by
            by_cases hbd : bad = true
            · exact .inl hbd
            · right; simp only; exact List.drop_eq_nil_of_le (by
                have : bad = false := by simpa using hbd
                rcases Nat.lt_or_ge i l.length with h | h
                · exact absurd ⟨by omega, h, this⟩ hgo
                · exact h))
      have HN := Lib.hid hn
      clear hn
      rcases (show l.length ≤ i ∨ (i < l.length ∧ 9 ≤ i) ∨ (i < l.length ∧ i < 9 ∧ bad = true) by
          rcases Nat.lt_or_ge i l.length with h | h
          · rcases Nat.lt_or_ge i 9 with h' | h'
            · exact .inr (.inr ⟨h, h', by
                cases bad with
                | true => rfl
                | false => exact absurd ⟨h', h, rfl⟩ hgo⟩)
            · exact .inr (.inl ⟨h, h'⟩)
          · exact .inl h) with h1 | ⟨h1, h2⟩ | ⟨h1, h2, rfl⟩
      all_goals
        clear hgo
        go_wp2_with (go_at_call 108; refine (failed_any _).mono ?_; rintro e w' ⟨rfl, rfl⟩)
        all_goals
          refine bodyPost_ret (v := .tuple #[.int .i64 0, .agg #[.slice none 0 0, .bool true]]) (by simp [results, Tryz.results72, go_sem]) rfl ?_
          rw [rdNum_none HN.out]
          exact ⟨none, 0, rfl, Nat.le_refl _, Sl.nil _ _, (by repeat (first | exact Fr.refl _ _ | refine Fr.alloc ?_ _ | refine Fr.drew ?_ | refine Fr.drewN ?_ _)), fun b hb => by cases hb⟩
end Go.Proofs.YtejkfekpgbmdiaaGreat
