/- The walk of the law DeltaSteps. -/
import Derived.Test.YtifgaejmhaepoaaLawApplies
import Derived.Test.YtifgaejmhaepoaaStepsP
import Derived.Test.YtifgaejmhaepoaaTwo
import Derived.Test.YtifgaejmhaepoaaSize
namespace Go.Proofs.Ytifgaejmhaepoaa
open Go.RowKit
set_option linter.unusedVariables false
set_option linter.unusedSimpArgs false

/-- pairs of ints as cells -/
def pc (ps : List (Int × Int)) : List Value := ps.flatMap fun p => [.int .i64 p.1, .int .i64 p.2]
theorem pc_len (ps : List (Int × Int)) : (pc ps).length = 2 * ps.length := by
  induction ps with
  | nil => rfl
  | cons p ps ih => simp only [pc, List.flatMap_cons] at ih ⊢; simp [ih]; omega
theorem pc_at (ps : List (Int × Int)) (k : Nat) (h : k < ps.length) : (pc ps)[k * 2]? = some (.int .i64 (ps[k]).1) ∧ (pc ps)[k * 2 + 1]? = some (.int .i64 (ps[k]).2) := by
  induction ps generalizing k with
  | nil => simp at h
  | cons p ps ih =>
    cases k with
    | zero => simp [pc]
    | succ k =>
      have := ih k (by simpa using h)
      simp only [pc, List.flatMap_cons] at this ⊢
      rw [show (k + 1) * 2 = k * 2 + 2 by omega, show k * 2 + 2 + 1 = k * 2 + 1 + 2 by omega]
      simpa using this

theorem gnum_n (w : World) (m : Nat) (v : Int) (hv : v = (m : Int)) (hm : m ≤ 4611686018427387904) : Calls Try.prog 13 #[.int .i64 v] w (NewBytes w (numB m)) := by subst hv; exact gnum_any w m hm

theorem own_empty (w0 w : World) (h : w0.heap.size ≤ w.heap.size) : OwnB w0 (w.alloc (.cells #[] 5)) (some ⟨w.heap.size, 0, none⟩) 0 [] :=
  own_base (World.ownsRow_lit (base := w.heap.size) (e := 5) (size := 1) w #[] 0 (Nat.le_refl _) (by simp [maxLen]) rfl) h
theorem same_n (w : World) (A B : Option Addr) (c d : Nat) (l m : List UInt8) (n k : Nat) (hn : l.length = n) (hk : m.length = k) (hA : Sl w A (bv l)) (hB : Sl w B (bv m)) (hl : l.length ≤ 140737488355328) (hm : m.length ≤ 140737488355328) (r : Bool) (hr : decide (l = m) = r) :
    Calls Try.prog 12 #[.slice A n c, .slice B k d] w (BoolTo w r) := by
  subst hn; subst hk; subst hr
  exact same_any w A B c d l m hA hB hl hm

/-- the loop of DeltaSteps -/
def StR (w : World) (base own : List UInt8) (ps : List (Int × Int)) (gk : Nat) (sv tv iv : Value) (wr : World) : Prop :=
  ∃ (k : Nat) (As : Option Addr) (cs : Nat) (At : Option Addr) (ct : Nat), iv = .int .i64 k ∧ k ≤ ps.length ∧ ps.length - k = gk ∧
    sv = .slice As ((ps.take k).flatMap (stepB base own)).length cs ∧ tv = .slice At ((ps.take k).flatMap (wantB base own)).length ct ∧
    Two w wr As cs ((ps.take k).flatMap (stepB base own)) At ct ((ps.take k).flatMap (wantB base own)) ∧
    ((ps.take k).flatMap (stepB base own)).length ≤ 527 * k ∧ ((ps.take k).flatMap (wantB base own)).length ≤ 2500 * k

theorem flat_take {α : Type} (f : α → List UInt8) (ps : List α) (k : Nat) (h : k < ps.length) : (ps.take (k + 1)).flatMap f = (ps.take k).flatMap f ++ f ps[k] := by
  rw [List.take_succ_eq_append_getElem h, List.flatMap_append]; simp

set_option maxRecDepth 100000 in
set_option maxHeartbeats 2000000 in
theorem steps_any (w : World) (A : Option Addr) (c : Nat) (base : List UInt8) (hA : Sl w A (bv base)) (hc : base.length ≤ c) (hb : base.length ≤ 140737488351232)
    (B : Option Addr) (cp : Nat) (ps : List (Int × Int)) (hB : Sl w B (pc ps)) (hpl : ps.length ≤ 140737488351232)
    (C : Option Addr) (co : Nat) (own : List UInt8) (hC : Sl w C (bv own)) (hco : own.length ≤ co) (ho : own.length ≤ 140737488351232) :
    Calls Try.prog 4 #[.slice A base.length c, .slice B ps.length cp, .slice C own.length co] w (lawPost w) := by
  by_cases hsmall : base.length = 0 ∨ 2000 < base.length ∨ 20 < ps.length ∨ 500 < own.length
  · rcases (show base.length ≤ 0 ∨ (1 ≤ base.length ∧ 2000 < base.length) ∨ (1 ≤ base.length ∧ base.length ≤ 2000 ∧ 20 < ps.length) ∨ (1 ≤ base.length ∧ base.length ≤ 2000 ∧ ps.length ≤ 20 ∧ 500 < own.length) by omega) with h1 | ⟨h1, h2⟩ | ⟨h1, h2, h3⟩ | ⟨h1, h2, h3, h4⟩
    · clear hsmall
      have e0 : ((base.length : Int) == 0) = true := by rw [beq_iff_eq]; omega
      go_enter Try.func4, Try.ntmps4
      go_wp2_with (go_at_call 9; refine (applying_any _).mono ?_; rintro e w1 ⟨rfl, hf1⟩)
      go_ret
      exact ⟨rfl, hf1.below⟩
    · clear hsmall
      have e0 : ((base.length : Int) == 0) = false := by rw [beq_eq_false_iff_ne]; omega
      have e1 : decide ((2000 : Int) < (base.length : Int)) = true := by simp; omega
      go_enter Try.func4, Try.ntmps4
      go_wp2_with (go_at_call 9; refine (applying_any _).mono ?_; rintro e w1 ⟨rfl, hf1⟩)
      go_ret
      exact ⟨rfl, hf1.below⟩
    · clear hsmall
      have e0 : ((base.length : Int) == 0) = false := by rw [beq_eq_false_iff_ne]; omega
      have e1 : decide ((2000 : Int) < (base.length : Int)) = false := by simp; omega
      have e2 : decide ((20 : Int) < (ps.length : Int)) = true := by simp; omega
      go_enter Try.func4, Try.ntmps4
      go_wp2_with (go_at_call 9; refine (applying_any _).mono ?_; rintro e w1 ⟨rfl, hf1⟩)
      go_ret
      exact ⟨rfl, hf1.below⟩
    · clear hsmall
      have e0 : ((base.length : Int) == 0) = false := by rw [beq_eq_false_iff_ne]; omega
      have e1 : decide ((2000 : Int) < (base.length : Int)) = false := by simp; omega
      have e2 : decide ((20 : Int) < (ps.length : Int)) = false := by simp; omega
      have e3 : decide ((500 : Int) < (own.length : Int)) = true := by simp; omega
      go_enter Try.func4, Try.ntmps4
      go_wp2_with (go_at_call 9; refine (applying_any _).mono ?_; rintro e w1 ⟨rfl, hf1⟩)
      go_ret
      exact ⟨rfl, hf1.below⟩
  · have h1 : 1 ≤ base.length := by omega
    have h2 : base.length ≤ 2000 := by omega
    have h3 : ps.length ≤ 20 := by omega
    have h4 : own.length ≤ 500 := by omega
    clear hsmall
    have e0 : ((base.length : Int) == 0) = false := by rw [beq_eq_false_iff_ne]; omega
    have e1 : decide ((2000 : Int) < (base.length : Int)) = false := by simp; omega
    have e2 : decide ((20 : Int) < (ps.length : Int)) = false := by simp; omega
    have e3 : decide ((500 : Int) < (own.length : Int)) = false := by simp; omega
    go_enter Try.func4, Try.ntmps4
    go_wp2_with (go_at_call 9; refine (applying_any _).mono ?_; rintro e w1 ⟨rfl, hf1⟩)
    go_loopg [7, 8, 47] ps.length (fun gk sv tv iv wr => StR w base own ps gk sv tv iv wr)
    case atStart =>
      refine ⟨0, some ⟨w1.heap.size, 0, none⟩, 0, some ⟨w1.heap.size + 1, 0, none⟩, 0, rfl, by omega, by omega, rfl, rfl, ⟨?_, ?_, ?_, (hf1.alloc _).alloc _⟩, by simp, by simp⟩
      · exact own_base ((World.ownsRow_lit (base := w1.heap.size) (e := 5) (size := 1) w1 #[] 0 (Nat.le_refl _) (by simp [maxLen]) rfl).alloc _) hf1.size
      · have := World.ownsRow_lit (base := (w1.alloc (.cells #[] 5)).heap.size) (e := 5) (size := 1) (w1.alloc (.cells #[] 5)) #[] 0 (Nat.le_refl _) (by simp [maxLen]) rfl
        exact own_base (by simpa using this) (by have := hf1.size; simp; omega)
      · intro g h1 h2
        simp at h1 h2; omega
    case round =>
      obtain ⟨k, As, cs, At, ct, rfl, hk, rfl, rfl, rfl, T, hls, hlt⟩ := hrel
      by_cases hlt' : k < ps.length
      · have hp := pLen_le (show 0 < base.length by omega) ps[k]
        have hpf := pFrom_lt (show 0 < base.length by omega) ps[k]
        have r1 : ((andM (ps[k]).1 : Int)) % (base.length : Int) = (pFrom base.length ps[k] : Int) := by simp [pFrom]
        have r2 : (1 : Int) + ((andM (ps[k]).2 : Int)) % ((base.length : Int) - (pFrom base.length ps[k] : Int)) = (pLen base.length ps[k] : Int) := by
          rw [show ((base.length : Int) - (pFrom base.length ps[k] : Int)) = ((base.length - pFrom base.length ps[k] : Nat) : Int) by omega]
          simp [pLen]
        have HS := Lib.hid (show stepB base own ps[k] = (numB (2 * pLen base.length ps[k] + 1) ++ numB (pFrom base.length ps[k])) ++ (if own = [] then [] else numB (2 * own.length) ++ own) from rfl)
        have HW := Lib.hid (show wantB base own ps[k] = (base.drop (pFrom base.length ps[k])).take (pLen base.length ps[k]) ++ own from rfl)
        have HF1 := Lib.hid (flat_take (stepB base own) ps k hlt')
        have HF2 := Lib.hid (flat_take (wantB base own) ps k hlt')
        generalize pFrom base.length ps[k] = o at hp hpf r1 r2 HS HW
        generalize pLen base.length ps[k] = n at hp r2 HS HW
        have hl1 := numB_length (2 * n + 1) (by omega)
        have hl2 := numB_length o (by omega)
        have hl3 := numB_length (2 * own.length) (by omega)
        have tok1 : True := trivial
        have tok2 : True := trivial
        obtain ⟨b1, b1'⟩ := (andM_eq (ps[k]).1)
        obtain ⟨b2, b2'⟩ := (andM_eq (ps[k]).2)
        obtain ⟨gB, oB, rfl, hgB, hcB⟩ := (hB.fr0 T.fr) (by intro h; have := pc_len ps; rw [h] at this; simp at this; omega)
        have c1 := hcB _ _ (pc_at ps k hlt').1
        have c2 := hcB _ _ (pc_at ps k hlt').2
        rw [← Nat.add_assoc] at c2
        clear hcB
        generalize (ps.take k).flatMap (stepB base own) = ls at T hls HF1 ⊢
        generalize (ps.take k).flatMap (wantB base own) = lt at T hlt HF2 ⊢
        have HSl : Sl w (cutA A c o 1) (bv ((base.drop o).take n)) := (hA.cutB (k := o) hc).takeB
        have tok3 : True := trivial
        by_cases hown : 0 < own.length
        · go_wp2_with (first | (go_at_call 13; have _t := tok1; refine (gnum_n _ (2 * n + 1) _ (by omega) (by omega)).mono ?_; rintro e w12 ⟨A12, c12, rfl, ho12, hf12⟩; have T12 := (T.step0 ((Fr.refl noB _).alloc _)).step0 hf12; clear tok1) | (at_builtin; refine wpList_appC w _ rfl (.tmp 66) (.tmp 70) rfl As _ cs (ls) rfl (by first | rfl | (simp; done) | (simp; omega)) T12.os A12 _ c12 (numB (2 * n + 1)) rfl (Sl.own ho12) (by first | rfl | (simp; done) | (simp; omega)) (by first | omega | (simp; omega)) T12.size ?_; intro A13 c13 w13 hc13 hm13 ho13 hg13 hb13; have T13 := (T12.app ho13 hg13 hb13)) | (go_at_call 13; have _t := tok2; refine (gnum_n _ (o) _ (by omega) (by omega)).mono ?_; rintro e w14 ⟨A14, c14, rfl, ho14, hf14⟩; have T14 := (T13).step0 hf14; clear tok2) | (at_builtin; refine wpList_appC w _ rfl (.tmp 71) (.tmp 73) rfl A13 _ c13 (ls ++ numB (2 * n + 1)) rfl (by first | rfl | (simp; done) | (simp; omega)) T14.os A14 _ c14 (numB o) rfl (Sl.own ho14) (by first | rfl | (simp; done) | (simp; omega)) (by first | omega | (simp; omega)) T14.size ?_; intro A15 c15 w15 hc15 hm15 ho15 hg15 hb15; have T15 := (T14.app ho15 hg15 hb15)) | (at_builtin; refine wpList_appC w _ rfl (.tmp 75) (.tmp 81) rfl At _ ct (lt) rfl (by first | rfl | (simp; done) | (simp; omega)) T15.symm.os (cutA A c o 1) _ _ ((base.drop o).take n) rfl ((HSl.fr0 T15.fr)) (by first | rfl | (simp; done) | (simp; omega)) (by first | omega | (simp; omega)) T15.symm.size ?_; intro A16 c16 w16 hc16 hm16 ho16 hg16 hb16; have T16 := (T15.symm.app ho16 hg16 hb16).symm) | (go_at_call 13; have _t := tok3; refine (gnum_n _ (2 * own.length) _ (by omega) (by omega)).mono ?_; rintro e w17 ⟨A17, c17, rfl, ho17, hf17⟩; have T17 := (T16).step0 hf17; clear tok3) | (at_builtin; refine wpList_appC w _ rfl (.tmp 86) (.tmp 90) rfl A15 _ c15 (ls ++ numB (2 * n + 1) ++ numB o) rfl (by first | rfl | (simp; done) | (simp; omega)) T17.os A17 _ c17 (numB (2 * own.length)) rfl (Sl.own ho17) (by first | rfl | (simp; done) | (simp; omega)) (by first | omega | (simp; omega)) T17.size ?_; intro A18 c18 w18 hc18 hm18 ho18 hg18 hb18; have T18 := (T17.app ho18 hg18 hb18)) | (at_builtin; refine wpList_appC w _ rfl (.tmp 91) (.tmp 92) rfl A18 _ c18 (ls ++ numB (2 * n + 1) ++ numB o ++ numB (2 * own.length)) rfl (by first | rfl | (simp; done) | (simp; omega)) T18.os C _ co (own) rfl (hC.fr0 T18.fr) (by first | rfl | (simp; done) | (simp; omega)) (by first | omega | (simp; omega)) T18.size ?_; intro A19 c19 w19 hc19 hm19 ho19 hg19 hb19; have T19 := (T18.app ho19 hg19 hb19)) | (at_builtin; refine wpList_appC w _ rfl (.tmp 94) (.tmp 95) rfl A16 _ c16 (lt ++ (base.drop o).take n) rfl (by first | rfl | (simp; done) | (simp; omega)) T19.symm.os C _ co (own) rfl (hC.fr0 T19.fr) (by first | rfl | (simp; done) | (simp; omega)) (by first | omega | (simp; omega)) T19.symm.size ?_; intro A20 c20 w20 hc20 hm20 ho20 hg20 hb20; have T20 := (T19.symm.app ho20 hg20 hb20).symm))
          go_roundg (ps.length - (k + 1))
          case measure => omega
          case rel =>
            have E1 : (ps.take (k + 1)).flatMap (stepB base own) = ls ++ numB (2 * n + 1) ++ numB o ++ numB (2 * own.length) ++ own := by
              rw [HF1.out, HS.out, if_neg (List.length_pos_iff.1 hown)]; simp
            have E2 : (ps.take (k + 1)).flatMap (wantB base own) = lt ++ (base.drop o).take n ++ own := by rw [HF2.out, HW.out]; simp
            refine ⟨k + 1, A19, c19, A20, c20, by go_num, by omega, rfl, congrArg (fun m => Value.slice A19 m c19) (by rw [E1]; simp), congrArg (fun m => Value.slice A20 m c20) (by rw [E2]; simp), by rw [E1, E2]; exact T20, ?_, ?_⟩
            · rw [E1]; simp; omega
            · rw [E2]; simp; omega
        · obtain rfl : own = [] := List.eq_nil_of_length_eq_zero (by omega)
          go_wp2_with (first | (go_at_call 13; have _t := tok1; refine (gnum_n _ (2 * n + 1) _ (by omega) (by omega)).mono ?_; rintro e w12 ⟨A12, c12, rfl, ho12, hf12⟩; have T12 := (T.step0 ((Fr.refl noB _).alloc _)).step0 hf12; clear tok1) | (at_builtin; refine wpList_appC w _ rfl (.tmp 66) (.tmp 70) rfl As _ cs (ls) rfl (by first | rfl | (simp; done) | (simp; omega)) T12.os A12 _ c12 (numB (2 * n + 1)) rfl (Sl.own ho12) (by first | rfl | (simp; done) | (simp; omega)) (by first | omega | (simp; omega)) T12.size ?_; intro A13 c13 w13 hc13 hm13 ho13 hg13 hb13; have T13 := (T12.app ho13 hg13 hb13)) | (go_at_call 13; have _t := tok2; refine (gnum_n _ (o) _ (by omega) (by omega)).mono ?_; rintro e w14 ⟨A14, c14, rfl, ho14, hf14⟩; have T14 := (T13).step0 hf14; clear tok2) | (at_builtin; refine wpList_appC w _ rfl (.tmp 71) (.tmp 73) rfl A13 _ c13 (ls ++ numB (2 * n + 1)) rfl (by first | rfl | (simp; done) | (simp; omega)) T14.os A14 _ c14 (numB o) rfl (Sl.own ho14) (by first | rfl | (simp; done) | (simp; omega)) (by first | omega | (simp; omega)) T14.size ?_; intro A15 c15 w15 hc15 hm15 ho15 hg15 hb15; have T15 := (T14.app ho15 hg15 hb15)) | (at_builtin; refine wpList_appC w _ rfl (.tmp 75) (.tmp 81) rfl At _ ct (lt) rfl (by first | rfl | (simp; done) | (simp; omega)) T15.symm.os (cutA A c o 1) _ _ ((base.drop o).take n) rfl ((HSl.fr0 T15.fr)) (by first | rfl | (simp; done) | (simp; omega)) (by first | omega | (simp; omega)) T15.symm.size ?_; intro A16 c16 w16 hc16 hm16 ho16 hg16 hb16; have T16 := (T15.symm.app ho16 hg16 hb16).symm) | (go_at_call 13; have _t := tok3; refine (gnum_n _ (2 * own.length) _ (by omega) (by omega)).mono ?_; rintro e w17 ⟨A17, c17, rfl, ho17, hf17⟩; have T17 := (T16).step0 hf17; clear tok3) | (at_builtin; refine wpList_appC w _ rfl (.tmp 86) (.tmp 90) rfl A15 _ c15 (ls ++ numB (2 * n + 1) ++ numB o) rfl (by first | rfl | (simp; done) | (simp; omega)) T17.os A17 _ c17 (numB (2 * own.length)) rfl (Sl.own ho17) (by first | rfl | (simp; done) | (simp; omega)) (by first | omega | (simp; omega)) T17.size ?_; intro A18 c18 w18 hc18 hm18 ho18 hg18 hb18; have T18 := (T17.app ho18 hg18 hb18)) | (at_builtin; refine wpList_appC w _ rfl (.tmp 91) (.tmp 92) rfl A18 _ c18 (ls ++ numB (2 * n + 1) ++ numB o ++ numB (2 * own.length)) rfl (by first | rfl | (simp; done) | (simp; omega)) T18.os C _ co (own) rfl (hC.fr0 T18.fr) (by first | rfl | (simp; done) | (simp; omega)) (by first | omega | (simp; omega)) T18.size ?_; intro A19 c19 w19 hc19 hm19 ho19 hg19 hb19; have T19 := (T18.app ho19 hg19 hb19)) | (at_builtin; refine wpList_appC w _ rfl (.tmp 94) (.tmp 95) rfl A16 _ c16 (lt ++ (base.drop o).take n) rfl (by first | rfl | (simp; done) | (simp; omega)) T19.symm.os C _ co (own) rfl (hC.fr0 T19.fr) (by first | rfl | (simp; done) | (simp; omega)) (by first | omega | (simp; omega)) T19.symm.size ?_; intro A20 c20 w20 hc20 hm20 ho20 hg20 hb20; have T20 := (T19.symm.app ho20 hg20 hb20).symm))
          go_roundg (ps.length - (k + 1))
          case measure => omega
          case rel =>
            have E1 : (ps.take (k + 1)).flatMap (stepB base []) = ls ++ numB (2 * n + 1) ++ numB o := by
              rw [HF1.out, HS.out]; simp
            have E2 : (ps.take (k + 1)).flatMap (wantB base []) = lt ++ (base.drop o).take n := by rw [HF2.out, HW.out]; simp
            refine ⟨k + 1, A15, c15, A16, c16, by go_num, by omega, rfl, congrArg (fun m => Value.slice A15 m c15) (by rw [E1]; simp), congrArg (fun m => Value.slice A16 m c16) (by rw [E2]; simp), by rw [E1, E2]; exact T16, ?_, ?_⟩
            · rw [E1]; simp; omega
            · rw [E2]; simp; omega
      · obtain rfl : k = ps.length := by omega
        rw [List.take_length] at T hls hlt ⊢
        have hap := steps_ap base own (by omega) h2 h4 ps [] [] (by simp; omega)
        have hap3 := steps_ap base own (by omega) h2 h4 ps [] (numB 3 ++ numB base.length) (by simp; omega)
        rw [List.nil_append, List.append_nil, apS_none] at hap
        rw [List.nil_append] at hap3
        generalize ps.flatMap (stepB base own) = ST at T hls hap hap3 ⊢
        generalize ps.flatMap (wantB base own) = WT at T hlt hap hap3 ⊢
        have hwl : WT.length ≤ 50000 := by omega
        have hsl : ST.length ≤ 10540 := by omega
        have HA0 := Lib.hid (show rdNum 1048576 (numB WT.length, false) = (WT.length, ([], false)) by
          have := rdNum_numB WT.length [] 1048576 (by omega) (by omega)
          rwa [List.append_nil] at this)
        have HA1 := Lib.hid (show applyD base ([] ++ numB WT.length ++ ST) = .ok WT by
          rw [List.nil_append, applyD_told _ _ _ (by omega), hap.1, apT, if_pos rfl])
        have HA3 := Lib.hid (show applyD base ([] ++ numB (WT.length + 1) ++ ST) = .error 20 by
          rw [List.nil_append, applyD_told _ _ _ (by omega), hap.1, apT, if_neg (by omega)])
        have HA2 := Lib.hid (show applyD base ([] ++ numB WT.length ++ ST ++ [3] ++ numB base.length) = .error 70 by
          have h3' : ([3] : List UInt8) = numB (2 * 1 + 1) := by rw [numB_small (by omega)]; rfl
          rw [List.nil_append, List.append_assoc, List.append_assoc, applyD_told _ _ _ (by omega), h3', hap3.1]
          have := apS_copy base [] WT 1 base.length (by omega) (by omega) (by omega)
          rw [List.append_nil] at this
          rw [this, if_pos (by omega)]
          rfl)
        have hd1 := numB_length WT.length (by omega)
        have hd2 := numB_length base.length (by omega)
        have hd3 := numB_length (WT.length + 1) (by omega)
        have hS := T.slS
        have hW := T.slT
        have FW0 := T.fr
        clear hap hap3 T hls hlt hB hk
        have tok1 : True := trivial
        have tok2 : True := trivial
        have tok3 : True := trivial
        have tok4 : True := trivial
        have tok5 : True := trivial
        go_wp2_with (first | (go_at_call 13; have _t := tok1; refine (gnum_n _ (WT.length) _ (by first | omega | (simp; done) | (simp; omega)) (by omega)).mono ?_; rintro e w12 ⟨A12, c12, rfl, ho12, hf12⟩; have FW := FW0.step0 hf12; replace hS := hS.fr0 hf12; replace hW := hW.fr0 hf12; clear tok1) | (at_builtin; refine wpList_appC w12 _ rfl (.tmp 103) (.tmp 104) rfl _ _ _ ([]) rfl (by first | rfl | (simp; done) | (simp; omega)) (own_empty w12 w12 (Nat.le_refl _)) A12 _ c12 (numB WT.length) rfl ((Sl.own ho12).fr0 ((Fr.refl noB w12).alloc (.cells #[] 5))) (by first | rfl | (simp; done) | (simp; omega)) (by first | omega | (simp; omega)) (((Fr.refl noB w12).alloc (.cells #[] 5))).size ?_; intro A21 c21 w21 hc21 hm21 ho21 hg21 hb21; have F21 := own_grow (own_empty w12 w12 (Nat.le_refl _)) ((Fr.refl noB w12).alloc (.cells #[] 5)) hg21) | (at_builtin; refine wpList_appC w12 _ rfl (.tmp 105) (.tmp 106) rfl A21 _ c21 ([] ++ numB WT.length) rfl (by first | rfl | (simp; done) | (simp; omega)) ho21 As _ cs (ST) rfl (hS.fr0 F21) (by first | rfl | (simp; done) | (simp; omega)) (by first | omega | (simp; omega)) (F21).size ?_; intro A22 c22 w22 hc22 hm22 ho22 hg22 hb22; have F22 := own_grow ho21 F21 hg22) | (go_at_call 10; have _t := tok2; refine (apply_n _ _ _ _ _ base ([] ++ numB WT.length ++ ST) _ _ rfl (by first | rfl | (simp; done) | (simp; omega)) (hA.fr0 (FW.step0 F22)) (Sl.own ho22) hc hc22 hb (by first | omega | (simp; omega)) (.ok WT) HA1.out).mono ?_; rintro e w23 ⟨A23, c23, rfl, ho23, hf23⟩; have F23 := F22.step0 hf23; clear tok2) | (go_at_call 14; refine (size_any _ A12 c12 (numB WT.length) _ rfl ((Sl.own ho12).fr0 F23) (by omega) WT.length ([], false) HA0.out).mono ?_; rintro e w24 ⟨rfl, hf24⟩; have F24 := F23.step0 hf24) | (go_at_call 12; refine (same_n _ A23 At c23 ct WT WT _ _ rfl rfl ((Sl.own ho23).fr0 hf24) (hW.fr0 F24) (by omega) (by omega) true (by simp)).mono ?_; rintro e w25 ⟨rfl, hf25⟩; have F25 := F24.step0 hf25) | (at_builtin; refine wpList_appC w12 _ rfl (.tmp 134) (.tmp 135) rfl _ _ _ ([]) rfl (by first | rfl | (simp; done) | (simp; omega)) (own_empty w12 w25 F25.size) A12 _ c12 (numB WT.length) rfl ((Sl.own ho12).fr0 (F25.alloc (.cells #[] 5))) (by first | rfl | (simp; done) | (simp; omega)) (by first | omega | (simp; omega)) ((F25.alloc (.cells #[] 5))).size ?_; intro A26 c26 w26 hc26 hm26 ho26 hg26 hb26; have F26 := own_grow (own_empty w12 w25 F25.size) (F25.alloc (.cells #[] 5)) hg26) | (at_builtin; refine wpList_appC w12 _ rfl (.tmp 136) (.tmp 137) rfl A26 _ c26 ([] ++ numB WT.length) rfl (by first | rfl | (simp; done) | (simp; omega)) ho26 As _ cs (ST) rfl (hS.fr0 F26) (by first | rfl | (simp; done) | (simp; omega)) (by first | omega | (simp; omega)) (F26).size ?_; intro A27 c27 w27 hc27 hm27 ho27 hg27 hb27; have F27 := own_grow ho26 F26 hg27) | (at_builtin; refine wpList_appC w12 _ rfl (.tmp 138) (.tmp 139) rfl A27 _ c27 ([] ++ numB WT.length ++ ST) rfl (by first | rfl | (simp; done) | (simp; omega)) (own_fr ho27 ((Fr.refl noB w27).alloc _) (fun _ _ => by simp [noB])) _ _ _ ([3]) rfl (Sl.new w27 5 (bv [3])) (by first | rfl | (simp; done) | (simp; omega)) (by first | omega | (simp; omega)) ((F27.alloc (.cells #[.int .u8 3] 5))).size ?_; intro A28 c28 w28 hc28 hm28 ho28 hg28 hb28; have F28 := own_grow (own_fr ho27 ((Fr.refl noB w27).alloc _) (fun _ _ => by simp [noB])) (F27.alloc (.cells #[.int .u8 3] 5)) hg28) | (go_at_call 13; have _t := tok3; refine (gnum_n _ (base.length) _ (by first | omega | (simp; done) | (simp; omega)) (by omega)).mono ?_; rintro e w29 ⟨A29, c29, rfl, ho29, hf29⟩; have F29 := F28.step0 hf29; clear tok3) | (at_builtin; refine wpList_appC w12 _ rfl (.tmp 141) (.tmp 144) rfl A28 _ c28 ([] ++ numB WT.length ++ ST ++ [3]) rfl (by first | rfl | (simp; done) | (simp; omega)) (own_fr ho28 hf29 (fun _ _ => by simp [noB])) A29 _ c29 (numB base.length) rfl (Sl.own ho29) (by first | rfl | (simp; done) | (simp; omega)) (by first | omega | (simp; omega)) (F29).size ?_; intro A30 c30 w30 hc30 hm30 ho30 hg30 hb30; have F30 := own_grow (own_fr ho28 hf29 (fun _ _ => by simp [noB])) F29 hg30) | (go_at_call 10; have _t := tok4; refine (apply_n _ _ _ _ _ base ([] ++ numB WT.length ++ ST ++ [3] ++ numB base.length) _ _ rfl (by first | rfl | (simp; done) | (simp; omega)) (hA.fr0 (FW.step0 F30)) (Sl.own ho30) hc hc30 hb (by first | omega | (simp; omega)) (.error 70) HA2.out).mono ?_; rintro e w31 ⟨A31, c31, rfl, ho31, hf31⟩; have F31 := F30.step0 hf31; clear tok4) | (go_at_call 13; have _t := tok5; refine (gnum_n _ (WT.length + 1) _ (by first | omega | (simp; done) | (simp; omega)) (by omega)).mono ?_; rintro e w32 ⟨A32, c32, rfl, ho32, hf32⟩; have F32 := (F31.alloc (.cells #[] 5)).step0 hf32; clear tok5) | (at_builtin; refine wpList_appC w12 _ rfl (.tmp 154) (.tmp 158) rfl _ _ _ ([]) rfl (by first | rfl | (simp; done) | (simp; omega)) (own_fr (own_empty w12 w31 F31.size) hf32 (fun _ _ => by simp [noB])) A32 _ c32 (numB (WT.length + 1)) rfl (Sl.own ho32) (by first | rfl | (simp; done) | (simp; omega)) (by first | omega | (simp; omega)) (F32).size ?_; intro A33 c33 w33 hc33 hm33 ho33 hg33 hb33; have F33 := own_grow (own_fr (own_empty w12 w31 F31.size) hf32 (fun _ _ => by simp [noB])) F32 hg33) | (at_builtin; refine wpList_appC w12 _ rfl (.tmp 159) (.tmp 160) rfl A33 _ c33 ([] ++ numB (WT.length + 1)) rfl (by first | rfl | (simp; done) | (simp; omega)) ho33 As _ cs (ST) rfl (hS.fr0 F33) (by first | rfl | (simp; done) | (simp; omega)) (by first | omega | (simp; omega)) (F33).size ?_; intro A34 c34 w34 hc34 hm34 ho34 hg34 hb34; have F34 := own_grow ho33 F33 hg34) | (go_at_call 10; refine (apply_n _ _ _ _ _ base ([] ++ numB (WT.length + 1) ++ ST) _ _ rfl (by first | rfl | (simp; done) | (simp; omega)) (hA.fr0 (FW.step0 F34)) (Sl.own ho34) hc hc34 hb (by first | omega | (simp; omega)) (.error 20) HA3.out).mono ?_; rintro e w35 ⟨A35, c35, rfl, ho35, hf35⟩; have F35 := F34.step0 hf35))
        go_ret
        exact ⟨rfl, (FW.step0 F35).below⟩
end Go.Proofs.Ytifgaejmhaepoaa
