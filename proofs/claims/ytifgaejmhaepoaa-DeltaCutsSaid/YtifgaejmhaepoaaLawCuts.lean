/- The walk of the law DeltaCuts. -/
import Derived.Test.YtifgaejmhaepoaaLawMakes
import Derived.Test.YtifgaejmhaepoaaCutsP
namespace Go.Proofs.Ytifgaejmhaepoaa
open Go.RowKit
set_option linter.unusedVariables false
set_option linter.unusedSimpArgs false

theorem applyL_err (base : List UInt8) : ∀ (f : Nat) (l out : List UInt8) (e : Nat), applyL base f l out = .error e → e = 20 ∨ e = 70 := by
  intro f
  induction f with
  | zero => intro l out e h; simp only [applyL] at h; cases h
  | succ f ih =>
    intro l out e h
    simp only [applyL] at h
    split at h
    · cases h
    · split at h
      · injection h with h; exact .inl h.symm
      · split at h
        · injection h with h; exact .inl h.symm
        · split at h
          · split at h
            · injection h with h; exact .inl h.symm
            · exact ih _ _ _ h
          · split at h
            · injection h with h; exact .inl h.symm
            · split at h
              · injection h with h; exact .inr h.symm
              · exact ih _ _ _ h
theorem applyD_err (base d : List UInt8) (e : Nat) (h : applyD base d = .error e) : e = 20 ∨ e = 70 := by
  unfold applyD at h
  split at h
  · injection h with h; exact .inl h.symm
  · split at h
    · rename_i h'
      injection h with h
      subst h
      exact applyL_err base _ _ _ _ h'
    · split at h
      · cases h
      · injection h with h; exact .inl h.symm

/-- what comes of a delta that is cut off -/
theorem cut_two {base target d : List UInt8} (h : Made base target d) (ht : target.length ≤ 1048576) (k : Nat) (hk : k < d.length) :
    (∃ out, applyD base (d.take k) = .ok out ∧ decide (out = target) = false ∧ out.length ≤ 1048576) ∨ (∃ en : Nat, applyD base (d.take k) = .error en ∧ (((en : Nat) : Int) == 0) = false) := by
  have hn := made_cut h ht k hk
  have hl := applyD_out base (d.take k)
  cases hx : applyD base (d.take k) with
  | error e =>
    have := applyD_err _ _ _ hx
    exact .inr ⟨e, rfl, by rw [beq_eq_false_iff_ne]; omega⟩
  | ok out =>
    rw [hx] at hn hl
    exact .inl ⟨out, rfl, by simp; intro e; exact hn (by rw [e]), hl⟩

theorem size_none (w : World) : Calls Try.prog 14 #[.slice none 0 0] w (SizeTo w 0 20) := size_any w none 0 [] 0 rfl (Sl.nil _ _) (by decide) 0 ([], true) rfl

set_option maxRecDepth 100000 in
set_option maxHeartbeats 1000000 in
theorem cuts_any (w : World) (hm : HasM w) (A : Option Addr) (ca : Nat) (la : List UInt8) (hA : Sl w A (bv la)) (hca : la.length ≤ ca) (hla : la.length ≤ 140737488351232) (hna : A = none → ca = 0)
    (B : Option Addr) (cb : Nat) (lb : List UInt8) (hB : Sl w B (bv lb)) (hcb : lb.length ≤ cb) (hlb : lb.length ≤ 140737488351232) (hnb : B = none → cb = 0) (a : Int) (wa : (Lit.int .i64 a).wf = true) :
    Calls Try.prog 8 #[.slice A la.length ca, .slice B lb.length cb, .int .i64 a] w (lawPost w) := by
  clear wa
  by_cases hlen : 3000 < la.length ∨ 3000 < lb.length ∨ lb.length = 0
  · rcases (show 3000 < la.length ∨ (la.length ≤ 3000 ∧ 3000 < lb.length) ∨ (la.length ≤ 3000 ∧ lb.length ≤ 0) by omega) with h1 | ⟨h1, h2⟩ | ⟨h1, h2⟩
    · clear hlen
      go_enter Try.func8, Try.ntmps8
      go_wp2_with (first | (go_at_call 9; refine (applying_any _).mono ?_; rintro e w1 ⟨rfl, hf1⟩) | (go_at_call 15; refine (making_any _ (hm.fr0 hf1)).mono ?_; rintro e w2 ⟨rfl, hf2⟩))
      go_ret
      exact ⟨rfl, (hf1.step0 hf2).below⟩
    · clear hlen
      go_enter Try.func8, Try.ntmps8
      go_wp2_with (first | (go_at_call 9; refine (applying_any _).mono ?_; rintro e w1 ⟨rfl, hf1⟩) | (go_at_call 15; refine (making_any _ (hm.fr0 hf1)).mono ?_; rintro e w2 ⟨rfl, hf2⟩))
      go_ret
      exact ⟨rfl, (hf1.step0 hf2).below⟩
    · clear hlen
      have e0 : ((lb.length : Int) == 0) = true := by rw [beq_iff_eq]; omega
      go_enter Try.func8, Try.ntmps8
      go_wp2_with (first | (go_at_call 9; refine (applying_any _).mono ?_; rintro e w1 ⟨rfl, hf1⟩) | (go_at_call 15; refine (making_any _ (hm.fr0 hf1)).mono ?_; rintro e w2 ⟨rfl, hf2⟩))
      go_ret
      exact ⟨rfl, (hf1.step0 hf2).below⟩
  · have h1 : la.length ≤ 3000 := by omega
    have h2 : lb.length ≤ 3000 := by omega
    have h3 : 1 ≤ lb.length := by omega
    have e0 : ((lb.length : Int) == 0) = false := by rw [beq_eq_false_iff_ne]; omega
    clear hlen
    obtain ⟨d, hd⟩ := made la lb (by omega) (by omega)
    have hl := hd.len
    have hl2 := made_two hd (by omega)
    have hlt : andM a % d.length < d.length := Nat.mod_lt _ (by omega)
    have hct := cut_two hd (by omega) (andM a % d.length) hlt
    obtain ⟨b1, b2⟩ := andM_eq a
    have r1 : ((andM a : Nat) : Int) % (d.length : Int) = ((andM a % d.length : Nat) : Int) := by simp
    obtain ⟨dm, hdm⟩ : ∃ x, x = d ++ [2, 120] := ⟨_, rfl⟩
    have hdl : dm.length ≤ 4000 := by rw [hdm, List.length_append]; simp; omega
    have hmo := made_more hd h2
    rw [← hdm] at hmo
    have HDM := Lib.hid hdm
    have HMO := Lib.hid hmo
    have HD := Lib.hid hd
    clear hd hdm hmo
    have htk : (d.take (andM a % d.length)).length = andM a % d.length := by rw [List.length_take]; omega
    have HTK := Lib.hid htk
    clear htk
    generalize andM a % d.length = k at *
    generalize andM a = am at *
    have t1 : True := trivial
    have t2 : True := trivial
    have t3 : True := trivial
    have t4 : True := trivial
    rcases hct with ⟨out, hx, hne, hol⟩ | ⟨en, hx, hne⟩
    · have HX := Lib.hid hx
      have HNE := Lib.hid hne
      clear hx hne
      go_enter Try.func8, Try.ntmps8
      go_wp2_with (first
        | (go_at_call 9; refine (applying_any _).mono ?_; rintro e w1 ⟨rfl, hf1⟩)
        | (go_at_call 15; refine (making_any _ (hm.fr0 hf1)).mono ?_; rintro e w2 ⟨rfl, hf2⟩; have F2 := hf1.step0 hf2)
        | (go_at_call 16; have _t := t1; clear t1 _t; refine (make_d _ A B ca cb la lb d _ _ rfl rfl HD.out (hA.fr0 F2) (hB.fr0 F2) hca hcb hna (by omega) (hm.fr0 F2)).mono ?_; rintro e w3 ⟨A3, c3, rfl, hc3, hs3, hf3⟩; have F3 := F2.step0 hf3; have hk3 : k ≤ c3 := by omega)
        | (go_at_call 10; have _t := t2; clear t2 _t; refine (apply_d _ A A3 ca c3 la (d.take k) _ _ rfl HTK.out (hA.fr0 F3) hs3.takeB hca (by rw [HTK.out]; omega) (by omega) (by rw [HTK.out]; omega) out 0 (.inl ⟨HX.out, rfl⟩)).mono ?_; rintro e w4 ⟨A4, c4, rfl, hc4, hs4, hf4⟩; have F4 := F3.step0 hf4; have G4 : Fr noB w3 w4 := hf4; have X4 := (Fr.refl noB w4).alloc (.cells #[] 5))
        | (go_at_call 12; refine (same_n _ A4 B c4 cb out lb _ _ rfl rfl hs4 (hB.fr0 F4) (by omega) (by omega) false HNE.out).mono ?_; rintro e w5 ⟨rfl, hf5⟩; replace F4 := F4.step0 hf5; replace G4 := G4.step0 hf5)
        | (at_builtin; have _t := t3; clear t3 _t; refine wpList_appT w5 _ rfl (.tmp 70) (.tmp 71) rfl (some ⟨w5.heap.size, 0, none⟩) _ 0 [] rfl rfl (own_empty w5 w5 (Nat.le_refl _)) A3 _ _ d rfl (hs3.fr0 (G4.alloc _)) rfl (by simp; omega) ((Fr.refl noB w5).alloc _) d rfl ?_; intro A6 c6 w6 hc6 ho6 hf6 _ _; have S6 := Sl.new w6 5 (bv [2, 120]))
        | (at_builtin; refine wpList_appT w5 _ rfl (.tmp 72) (.tmp 73) rfl A6 _ c6 d rfl rfl (own_fr ho6 ((Fr.refl noB w6).alloc _) (fun _ _ => by simp [noB])) _ _ _ [2, 120] rfl S6 rfl (by simp; omega) (hf6.alloc _) dm HDM.out ?_; intro A7 c7 w7 hc7 ho7 hf7 _ _; have F7 := F4.step0 hf7)
        | (go_at_call 10; refine (apply_d _ A A7 ca c7 la dm _ _ rfl rfl (hA.fr0 F7) (Sl.own ho7) hca hc7 (by omega) (by omega) [] 20 (.inr ⟨HMO.out, rfl⟩)).mono ?_; rintro e w8 ⟨A8, c8, rfl, hc8, hs8, hf8⟩; have F8 := F7.step0 hf8)
        | (go_at_call 14; have _t := t4; clear t4 _t; refine (size_d _ A3 c3 la lb d _ rfl (((hs3.fr0 G4).fr0 hf7).fr0 hf8) (by omega) HD.out (by omega)).mono ?_; rintro e w9 ⟨rfl, hf9⟩; have F9 := F8.step0 hf9)
        | (go_at_call 14; refine (size_none _).mono ?_; rintro e w10 ⟨rfl, hf10⟩; have F10 := F9.step0 hf10))
      go_ret
      exact ⟨by simp, F10.below⟩
    · have HX := Lib.hid hx
      clear hx
      go_enter Try.func8, Try.ntmps8
      go_wp2_with (first
        | (go_at_call 9; refine (applying_any _).mono ?_; rintro e w1 ⟨rfl, hf1⟩)
        | (go_at_call 15; refine (making_any _ (hm.fr0 hf1)).mono ?_; rintro e w2 ⟨rfl, hf2⟩; have F2 := hf1.step0 hf2)
        | (go_at_call 16; have _t := t1; clear t1 _t; refine (make_d _ A B ca cb la lb d _ _ rfl rfl HD.out (hA.fr0 F2) (hB.fr0 F2) hca hcb hna (by omega) (hm.fr0 F2)).mono ?_; rintro e w3 ⟨A3, c3, rfl, hc3, hs3, hf3⟩; have F3 := F2.step0 hf3; have hk3 : k ≤ c3 := by omega)
        | (go_at_call 10; have _t := t2; clear t2 _t; refine (apply_d _ A A3 ca c3 la (d.take k) _ _ rfl HTK.out (hA.fr0 F3) hs3.takeB hca (by rw [HTK.out]; omega) (by omega) (by rw [HTK.out]; omega) [] en (.inr ⟨HX.out, rfl⟩)).mono ?_; rintro e w4 ⟨A4, c4, rfl, hc4, hs4, hf4⟩; have F4 := F3.step0 hf4; have G4 : Fr noB w3 w4 := hf4; have X4 := (Fr.refl noB w4).alloc (.cells #[] 5))
        | (at_builtin; have _t := t3; clear t3 _t; refine wpList_appT w4 _ rfl (.tmp 70) (.tmp 71) rfl (some ⟨w4.heap.size, 0, none⟩) _ 0 [] rfl rfl (own_empty w4 w4 (Nat.le_refl _)) A3 _ _ d rfl (hs3.fr0 (G4.alloc _)) rfl (by simp; omega) ((Fr.refl noB w4).alloc _) d rfl ?_; intro A6 c6 w6 hc6 ho6 hf6 _ _; have S6 := Sl.new w6 5 (bv [2, 120]))
        | (at_builtin; refine wpList_appT w4 _ rfl (.tmp 72) (.tmp 73) rfl A6 _ c6 d rfl rfl (own_fr ho6 ((Fr.refl noB w6).alloc _) (fun _ _ => by simp [noB])) _ _ _ [2, 120] rfl S6 rfl (by simp; omega) (hf6.alloc _) dm HDM.out ?_; intro A7 c7 w7 hc7 ho7 hf7 _ _; have F7 := F4.step0 hf7)
        | (go_at_call 10; refine (apply_d _ A A7 ca c7 la dm _ _ rfl rfl (hA.fr0 F7) (Sl.own ho7) hca hc7 (by omega) (by omega) [] 20 (.inr ⟨HMO.out, rfl⟩)).mono ?_; rintro e w8 ⟨A8, c8, rfl, hc8, hs8, hf8⟩; have F8 := F7.step0 hf8)
        | (go_at_call 14; have _t := t4; clear t4 _t; refine (size_d _ A3 c3 la lb d _ rfl (((hs3.fr0 G4).fr0 hf7).fr0 hf8) (by omega) HD.out (by omega)).mono ?_; rintro e w9 ⟨rfl, hf9⟩; have F9 := F8.step0 hf9)
        | (go_at_call 14; refine (size_none _).mono ?_; rintro e w10 ⟨rfl, hf10⟩; have F10 := F9.step0 hf10))
      go_ret
      exact ⟨by simp, F10.below⟩
end Go.Proofs.Ytifgaejmhaepoaa
