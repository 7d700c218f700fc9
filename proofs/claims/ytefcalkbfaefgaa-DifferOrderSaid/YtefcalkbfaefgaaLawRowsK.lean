/- Contract: pollardlaw14.DifferRows is true. (ex_ldS_at) -/
import Derived.Test.YtefcalkbfaefgaaLawDK
import Derived.Test.YtefcalkbfaefgaaR14PK
namespace Go.Proofs.Ytefcalkbfaefgaa
open Go.RowKit Go.Sort
set_option linter.unusedVariables false
set_option linter.unusedSimpArgs false

set_option maxRecDepth 100000 in
set_option maxHeartbeats 4000000 in
theorem rows14_any (w : World) (A B : Option Addr) (c d n m : Nat) (rs ss : List RwW) (xs ys : List RwP) (hn : rs.length = n) (hm : ss.length = m) (hSA : Sl w A (codR.row rs)) (hSB : Sl w B (codR.row ss)) (hX : RwsIn w rs xs) (hY : RwsIn w ss ys) (hbx : ∀ x ∈ xs, x.Heads.length ≤ 2932031007402) (hby : ∀ x ∈ ys, x.Heads.length ≤ 2932031007402) (s : St) (hw : wfS s = true) :
    Calls Try.prog 3 #[.slice A n c, .slice B m d, .agg (codS.A s)] w (Gives w (.bool true)) := by
  subst hn hm
  have f0 : Fr noB w (w.alloc (.cells (codS.A s) 24)) := (Fr.refl noB w).alloc _
  have q0 := Cod.rd_new (C := codS) w 24 s
  by_cases h1 : 40 < rs.length
  · have i1 : (40 : Int) < (rs.length : Int) := by omega
    clear h1
    go_enter Try.func3, Try.ntmps3
    go_wp2_with (go_at_call 5; refine (alive14_any _).mono ?_; rintro e w1 ⟨rfl, f1⟩)
    go_ret
    exact ⟨rfl, f0.step0 f1⟩
  by_cases h2 : 40 < ss.length
  · have i1 : ¬ (40 : Int) < (rs.length : Int) := by omega
    have i2 : (40 : Int) < (ss.length : Int) := by omega
    clear h1 h2
    go_enter Try.func3, Try.ntmps3
    go_wp2_with (go_at_call 5; refine (alive14_any _).mono ?_; rintro e w1 ⟨rfl, f1⟩)
    go_ret
    exact ⟨rfl, f0.step0 f1⟩
  have i1 : ¬ (40 : Int) < (rs.length : Int) := by omega
  have i2 : ¬ (40 : Int) < (ss.length : Int) := by omega
  have CR1 := Lib.hid (fun w' (f : Fr noB w w') => r13right_any w' A c rs.length rs xs rfl (hSA.fr0 f) (by omega) (hX.fr f))
  have CR2 := Lib.hid (fun w' (f : Fr noB w w') => r13right_any w' B d ss.length ss ys rfl (hSB.fr0 f) (by omega) (hY.fr f))
  have tok : True := trivial
  go_enter Try.func3, Try.ntmps3
  go_upto_region 3 with (go_at_call 5; refine (alive14_any _).mono ?_; rintro e w1 ⟨rfl, f1⟩)
  replace f0 := f0.step0 f1
  have q1 := Cod.rd_fr0 q0 f1
  obtain ⟨P, hP⟩ : ∃ x, x = w.heap.size := ⟨_, rfl⟩
  rw [← hP] at q1 ⊢
  clear hP f1 q0
  go_upto_region 5 with (first
    | (go_at_call 6; have _t := tok; refine (CR1.out _ f0).mono ?_; rintro e w2 ⟨b2, rfl, f2, h2⟩; clear tok _t; cases b2)
    | (go_at_call 6; refine (CR2.out _ (f0.step0 f2)).mono ?_; rintro e w3 ⟨b3, rfl, f3, h3⟩; cases b3))
  all_goals first
    | (go_ret; exact ⟨rfl, by first | exact f0.step0 f2 | exact (f0.step0 f2).step0 f3⟩)
    | skip
  have tX := h2 (by first | rfl | trivial)
  have tY := h3 (by first | rfl | trivial)
  replace f0 := (f0.step0 f2).step0 f3
  replace q1 := Cod.rd_fr0 (Cod.rd_fr0 q1 f2) f3
  clear f2 f3 h2 h3 CR1 CR2
  have hk : ∀ w' w'' : World, Fr noB w' w'' → codS.rd w' P 0 = some s → codS.rd w'' P 0 = some s := fun w' w'' f h => Cod.rd_fr0 h f
  refine wp_region_M 23 24 [⟨134217728, 1, 0⟩, ⟨268435456, 134217728, 1⟩, ⟨536870912, 1, 0⟩, ⟨1073741824, 536870912, 6⟩, ⟨2147483648, 1342177280, 10⟩, ⟨4294967296, 2147483648, 16⟩, ⟨8589934592, 4294967297, 32⟩, ⟨17179869184, 4294967298, 32⟩, ⟨34359738368, 30064771072, 224⟩, ⟨68719476736, 4294967297, 32⟩, ⟨137438953472, 4294967298, 32⟩, ⟨274877906944, 210453397504, 1824⟩, ⟨549755813888, 313532612608, 2336⟩, ⟨1099511627776, 554050781184, 4128⟩, ⟨2199023255552, 1099511627776, 10240⟩, ⟨4398046511104, 2199023255553, 16384⟩, ⟨8796093022208, 2199023255584, 16384⟩, ⟨17592186044416, 15393162788864, 114688⟩, ⟨35184372088832, 2199023255553, 16384⟩, ⟨70368744177664, 2199023255584, 16384⟩, ⟨140737488355328, 107752139522048, 933888⟩, ⟨281474976710656, 160528697655296, 1196032⟩, ⟨562949953421312, 283673999966208, 2113536⟩, ⟨64, 562949953421312, 8388607⟩] [(true, 0), (true, 2), (false, 1), (false, 3), (false, 4), (true, 5), (true, 6), (true, 7), (true, 9), (true, 10), (false, 8), (false, 11), (true, 12), (true, 13), (true, 14), (true, 15), (true, 16), (true, 18), (true, 19), (false, 17), (false, 20), (true, 21), (true, 22)] (fun w' => codS.rd w' P 0 = some s) (by kernel_rfl) rfl (by kernel_rfl) (by kernel_rfl) (by kernel_rfl) (hk _ _ ((Fr.refl noB w3).drew) q1) (fun hA hF => ?_)
  replace f0 := f0.drew
  iterate 2
    refine wpAnyS_take (v := ?_) hA rfl (fun _ _ _ h => h) (Or.inl ⟨by rfl, ?_⟩) hF (fun hA => ?_)
    rotate_left
    · intro wS hSw; (try dsimp only at hSw); obtain s1 := hSw; first | (apply Eq.trans; apply ex_ldS_at; exact rfl; exact rfl; assumption; with_reducible rfl) | (go_simp; try with_reducible rfl)
    try simp only [List.getElem_toArray, List.getElem_cons_zero, List.getElem_cons_succ, Act.put, List.setIfInBounds_toArray, List.set_cons_zero, List.set_cons_succ]
  refine wpAnyS_one hA rfl (fun K' hK => ?_)
  go_simp
  go_at_call 8
  refine (alive_d _ A c rs.length rs xs rfl (hSA.fr0 f0) (by omega) (hX.fr f0) tX.nd hbx).mono ?_
  rintro e w4 ⟨A4, c4, l4, rfl, s4, r4, f4⟩
  replace f0 := f0.step0 f4
  replace hF := hk _ _ f4 hF
  refine hK.out _ _ hF (fun hA => ?_)
  clear hK K'
  as_aux_lemma =>
  refine wpAnyS_one hA rfl (fun K' hK => ?_)
  go_simp
  go_at_call 9
  refine (r14alive_any _ A c rs.length rs xs rfl (hSA.fr0 f0) (by omega) (hX.fr f0)).mono ?_
  rintro e w5 ⟨A5, c5, l5, rfl, s5, r5, f5⟩
  replace f0 := f0.step0 f5
  replace s4 := s4.fr0 f5
  replace r4 := r4.fr f5
  rw [← aliveR_eq tX] at r5
  have hl4 : l4.length ≤ 40 := by have := r4.len; have := aliveR_len xs; have := hX.len; omega
  replace hF := hk _ _ f5 hF
  refine hK.out _ _ hF (fun hA => ?_)
  clear hK K'
  as_aux_lemma =>
  refine wpAnyS_one hA rfl (fun K' hK => ?_)
  go_simp
  go_at_call 7
  refine (r12same_any _ A4 A5 c4 c5 l4.length l5.length l4 l5 (aliveR xs) rfl rfl s4 s5 r4 r5 (by omega)).mono ?_
  rintro e w6 ⟨rfl, f6⟩
  replace f0 := f0.step0 f6
  replace hF := hk _ _ f6 hF
  refine hK.out _ _ hF (fun hA => ?_)
  clear hK K'
  as_aux_lemma =>
  iterate 5
    refine wpAnyS_take (v := ?_) hA rfl (fun _ _ _ h => h) (Or.inl ⟨by rfl, ?_⟩) hF (fun hA => ?_)
    rotate_left
    · intro wS hSw; (try dsimp only at hSw); obtain s1 := hSw; first | (apply Eq.trans; apply ex_ldS_at; exact rfl; exact rfl; assumption; with_reducible rfl) | (go_simp; try with_reducible rfl)
    try simp only [List.getElem_toArray, List.getElem_cons_zero, List.getElem_cons_succ, Act.put, List.setIfInBounds_toArray, List.set_cons_zero, List.set_cons_succ]
  refine wpAnyS_one hA rfl (fun K' hK => ?_)
  rw [if_pos (by rfl)]
  go_simp
  go_at_call 10
  refine (alike_any _ A B c d rs.length ss.length rs ss xs ys rfl rfl (hSA.fr0 f0) (hSB.fr0 f0) (hX.fr f0) (hY.fr f0) (by omega) (by omega) tX.nd tY.nd hbx hby).mono ?_
  rintro e w7 ⟨rfl, f7⟩
  replace f0 := f0.step0 f7
  replace hF := hk _ _ f7 hF
  refine hK.out _ _ hF (fun hA => ?_)
  clear hK K'
  as_aux_lemma =>
  refine wpAnyS_one hA rfl (fun K' hK => ?_)
  rw [if_pos (by rfl)]
  go_simp
  go_at_call 11
  refine (r14alike_any _ A B c d rs.length ss.length rs ss xs ys rfl rfl (hSA.fr0 f0) (hSB.fr0 f0) (hX.fr f0) (hY.fr f0) (by omega) (by omega)).mono ?_
  rintro e w8 ⟨rfl, f8⟩
  replace f0 := f0.step0 f8
  rw [← aliveR_eq tX, ← aliveR_eq tY]
  replace hF := hk _ _ f8 hF
  refine hK.out _ _ hF (fun hA => ?_)
  clear hK K'
  as_aux_lemma =>
  have hv : (alikeR xs ys == alikeR xs ys) = true := by simp
  have hv2 : decide (alikeR xs ys = alikeR xs ys) = true := by simp
  have hal : allTwo alikeRP (aliveR xs) (aliveR ys) = alikeR xs ys := rfl
  rw [hal]
  generalize alikeR xs ys = v at hv hv2
  clear hal
  iterate 7
    refine wpAnyS_take (v := ?_) hA rfl (fun _ _ _ h => h) (Or.inl ⟨by rfl, ?_⟩) hF (fun hA => ?_)
    rotate_left
    · intro wS hSw; (try dsimp only at hSw); obtain s1 := hSw; first | (apply Eq.trans; apply ex_ldS_at; exact rfl; exact rfl; assumption; with_reducible rfl) | (go_simp; try with_reducible rfl)
    try simp only [List.getElem_toArray, List.getElem_cons_zero, List.getElem_cons_succ, Act.put, List.setIfInBounds_toArray, List.set_cons_zero, List.set_cons_succ]
  refine wpAnyS_one hA rfl (fun K' hK => ?_)
  rw [if_pos (by rfl)]
  go_simp
  go_at_call 12
  refine (path_any _ A c rs.length rs xs rfl (hSA.fr0 f0) (hX.fr f0) tX s hw).mono ?_
  rintro e w9 ⟨rfl, f9⟩
  replace f0 := f0.step0 f9
  replace hF := hk _ _ f9 hF
  refine hK.out _ _ hF (fun hA => ?_)
  clear hK K'
  as_aux_lemma =>
  refine wpAnyS_one hA rfl (fun K' hK => ?_)
  rw [if_pos (by rfl)]
  go_simp
  go_at_call 13
  refine (r14path_any _ A c rs.length rs xs rfl (hSA.fr0 f0) (by omega) (hX.fr f0) tX s).mono ?_
  rintro e w10 ⟨rfl, f10⟩
  replace f0 := f0.step0 f10
  replace hF := hk _ _ f10 hF
  refine hK.out _ _ hF (fun hA => ?_)
  clear hK K'
  as_aux_lemma =>
  iterate 2
    refine wpAnyS_take (v := ?_) hA rfl (fun _ _ _ h => h) (Or.inl ⟨by rfl, ?_⟩) hF (fun hA => ?_)
    rotate_left
    · intro wS hSw; (try dsimp only at hSw); obtain s1 := hSw; first | (apply Eq.trans; apply ex_ldS_at; exact rfl; exact rfl; assumption; with_reducible rfl) | (go_simp; try with_reducible rfl)
    try simp only [List.getElem_toArray, List.getElem_cons_zero, List.getElem_cons_succ, Act.put, List.setIfInBounds_toArray, List.set_cons_zero, List.set_cons_succ]
  refine wpAnyS_end hA rfl ?_
  simp only [List.drop_succ_cons, List.drop_zero]
  go_wp2_with fail
  go_ret
  exact ⟨rfl, f0⟩
theorem rowsL_any (w : World) (A : Option Addr) (c : Nat) (rs : List RwW) (xs : List RwP) (hs : Sl w A (codR.row rs)) (hb : rs.length ≤ 140737488355328) (hX : RwsIn w rs xs) (hbx : ∀ x ∈ xs, x.Heads.length ≤ 2932031007402)
    (B : Option Addr) (d : Nat) (ss : List RwW) (ys : List RwP) (hs2 : Sl w B (codR.row ss)) (hb2 : ss.length ≤ 140737488355328) (hY : RwsIn w ss ys) (hby : ∀ x ∈ ys, x.Heads.length ≤ 2932031007402) (s : St) (hw : wfS s = true) :
    Calls Try.prog 3 #[.slice A rs.length c, .slice B ss.length d, .agg (codS.A s)] w (Gives w (.bool true)) :=
  rows14_any w A B c d rs.length ss.length rs ss xs ys rfl rfl hs hs2 hX hY hbx hby s hw
end Go.Proofs.Ytefcalkbfaefgaa
