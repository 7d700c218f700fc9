/- Contract: the reference's Depth. (ex_ld_arr: loads of arrays are met by that rule.) -/
import Derived.Test.YtchiclnnoealdaaRefR
namespace Go.Proofs.Ytchiclnnoealdaa
open Go.RowKit Go.Maps Go.Sort Go.Shelf
set_option linter.unusedVariables false
set_option linter.unusedSimpArgs false

theorem upD_snoc (f : ID → Nat) (ps : List ID) (p : ID) : upD f (ps ++ [p]) = max (upD f ps) (f p + 1) := by
  unfold upD; rw [List.foldl_append]; rfl
/-- the depths of the first i are there -/
def DepT (m : Md) (i : Nat) (xs : List Value) : Prop := xs.length = m.length ∧ ∀ j (hj : j < m.length), j < i → xs[j]? = some (.int .i64 (depthG m.reverse (m[j]).1))
theorem DepT.set {m : Md} {i : Nat} {xs : List Value} (h : DepT m i xs) (v : Value) : DepT m i (xs.set i v) :=
  ⟨by rw [List.length_set]; exact h.1, fun j hj hl => by rw [List.getElem?_set_ne (by omega)]; exact h.2 j hj hl⟩
theorem DepT.succ {m : Md} {i : Nat} {xs : List Value} (h : DepT m i xs) (hi : i < m.length) (hx : xs[i]? = some (.int .i64 (depthG m.reverse (m[i]).1))) : DepT m (i + 1) xs :=
  ⟨h.1, fun j hj hl => by
    rcases Nat.lt_or_ge j i with h' | h'
    · exact h.2 j hj h'
    · have : j = i := by omega
      subst this; exact hx⟩
def Rd1 (w1 : World) (gR : Nat) (m : Md) (x : ID) (gk : Nat) (kv : Value) (wr : World) : Prop := ∃ (i : Nat) (xs : List Value), kv = .int .i64 (i : Int) ∧ gk = m.length - i ∧ i ≤ m.length ∧ OwnC gR wr 3 gR m.length xs ∧ DepT m i xs ∧ i ≤ findN m x ∧ Fr noB w1 wr
def Rd2 (w1 : World) (gR : Nat) (m : Md) (i : Nat) (ps : List ID) (gk : Nat) (kv : Value) (wr : World) : Prop := ∃ (k : Nat) (xs : List Value), kv = .int .i64 (k : Int) ∧ gk = ps.length - k ∧ k ≤ ps.length ∧ OwnC gR wr 3 gR m.length xs ∧ DepT m i xs ∧ xs[i]? = some (.int .i64 (upD (depthG m.reverse) (ps.take k))) ∧ Fr noB w1 wr

set_option maxRecDepth 100000 in
set_option maxHeartbeats 1000000 in
theorem refDepth_any (w : World) (A : Option Addr) (c n : Nat) (m : Md) (hn : m.length = n) (h : RfA w A m) (hk : okG m.reverse) (hb : m.length ≤ 1000000) (x : ID) : Calls Try.prog 19 #[.slice A n c, encI x] w (Gives w (.int .i64 (depthG m.reverse x))) := by
  subst hn
  have hmk := run_make_row' (P := Try.prog) 72 3 (.int .i64 0) 8 Try.underlying72 (by kernel_rfl) rfl .i64 .i64 m.length (by omega) (by omega)
  have b1 := rd_arr w x
  have f0 : Fr noB w (w.alloc (aro x)) := (Fr.refl noB w).alloc _
  have s1 : (w.alloc (aro x)).heap.size = w.heap.size + 1 := World.size_alloc ..
  have HK := Lib.hid hk
  clear hk
  go_enter Try.func19, Try.ntmps19
  go_wp2_with fail
  generalize w.alloc (aro x) = w1 at b1 f0 s1 ⊢
  have h1 := h.fr0 f0
  have own0 := OwnC.mk0 w1 3 (.int .i64 0) m.length (by omega)
  have f1 : Fr noB w1 (w1.alloc (.cells (madeCells #[.int .i64 0] m.length) 3)) := (Fr.refl noB w1).alloc _
  generalize hP : w.heap.size = P at b1 s1 ⊢
  clear hP
  rw [s1] at own0
  have S1 := Lib.hid s1
  clear s1
  go_loopg [6, 7, 8] m.length (fun gk kv v7 v8 wr => Rd1 w1 (P + 1) m x gk kv wr)
  case atStart => exact ⟨0, _, rfl, rfl, by omega, own0, ⟨by simp, fun j hj hl => by omega⟩, by omega, f1⟩
  case round =>
    obtain ⟨i, xs, rfl, rfl, hi, ho, hd, hfx, hf⟩ := hrel
    clear own0 f1 hmk
    have HD := Lib.hid hd
    clear hd
    by_cases hlt : i < m.length
    · have i0 : (0 : Int) ≤ (i : Int) := by omega
      have i1 : (i : Int) < (m.length : Int) := by omega
      obtain ⟨g, off, rfl⟩ := h1.ad (by omega)
      obtain ⟨B2, c2, hr0, hs0⟩ := h1.at i hlt
      have hplt := par_lt HK.out i hlt
      have hpl := ps_len HK.out i hlt
      have hpar := depth_par HK.out (par_at HK.out i hlt)
      have hdl := depth_le m.reverse
      rw [List.length_reverse] at hdl
      have hse : ∀ w', Fr noB w1 w' → w'.cell? ⟨g, off + i * 33 + 32, none⟩ = some (.slice B2 (m[i]).2.length c2) := fun w' f => (hr0.fr f (by simp [noB])).sl
      have hid : ∀ w', Fr noB w1 w' → rdI w' g (off + i * 33) = some (m[i]).1 := fun w' f => (hr0.fr f (by simp [noB])).id
      have hne : (m[i]).1 ≠ x → i + 1 ≤ findN m x := fun hn => by
        rcases Nat.lt_or_ge i (findN m x) with h | h
        · exact h
        · have e : findN m x = i := by omega
          exact absurd (by have := findN_at (m := m) (x := x) (by omega); simpa only [e] using this) hn
      have HSE := Lib.hid hse
      have HID := Lib.hid hid
      have HNE := Lib.hid hne
      have HPLT := Lib.hid hplt
      have HPAR := Lib.hid hpar
      have HDL := Lib.hid hdl
      clear hse hid hne hplt hpar hdl hr0
      have hxl : i < xs.length := by have := HD.out.1; omega
      have hc0 := ho.cell hlt (List.getElem?_eq_getElem hxl)
      have hz0 := ho.froz i
      obtain ⟨ho2, f2⟩ := ho.put i (.int .i64 1)
      have hd2 := HD.out.set (.int .i64 1)
      have hf2 := hf.step1 f2 (Nat.le_of_eq S1.out)
      have hx2 : (xs.set i (.int .i64 1))[i]? = some (.int .i64 1) := by rw [List.getElem?_set_self hxl]
      have HD2 := Lib.hid hd2
      have HX2 := Lib.hid hx2
      clear hd2 hx2
      go_wp2_with fail
      generalize wr.setCell ⟨P + 1, i, none⟩ (.int .i64 1) = W at ho2 f2 hf2 ⊢
      clear hc0 hz0 ho hf f2
      generalize hps : (m[i]).2 = ps at HSE HPLT HPAR hpl hs0
      go_loopg [7, 8] ps.length (fun gk kv v8 wr => Rd2 w1 (P + 1) m i ps gk kv wr)
      case atStart => exact ⟨0, _, rfl, rfl, by omega, ho2, HD2.out, by rw [HX2.out]; rfl, hf2⟩
      case round =>
        obtain ⟨k, ys, rfl, rfl, hkl, ho3, hd3, hx3, hf3⟩ := hrel
        clear ho2 hf2
        have hsl := HSE.out _ hf3
        have HD3 := Lib.hid hd3
        clear hd3
        by_cases hlk : k < ps.length
        · have k0 : (0 : Int) ≤ (k : Int) := by omega
          have k1 : (k : Int) < (ps.length : Int) := by omega
          obtain ⟨gp, op, rfl⟩ := hs0.ad (by omega)
          have rp := (hs0.fr0 hf3).id k hlk
          have hts : ps.take (k + 1) = ps.take k ++ [ps[k]] := List.take_succ_eq_append_getElem hlk
          have hpi := HPLT.out _ (List.getElem_mem hlk)
          generalize ps[k] = p at rp hts hpi
          have HT := Lib.hid hts
          clear hts
          go_wp2_with fail
          go_at_call 15
          refine (find_any _ _ c _ m rfl (h1.fr0 hf3) hb p).mono ?_
          rintro e w2 ⟨rfl, f2⟩
          have ho4 := ho3.frX f2 (by simp [noB])
          have hf4 := hf3.step0 f2
          have hx : findN m p < m.length := by omega
          have e1 : findI m p = (findN m p : Int) := by unfold findI; rw [if_pos hx]
          have e2 := findN_at hx
          rw [e1]
          generalize findN m p = a at hx e2 hpi ⊢
          have a0 : (0 : Int) ≤ (a : Int) := by omega
          have a1 : (a : Int) < (m.length : Int) := by omega
          have hya := HD3.out.2 a hx hpi
          rw [e2] at hya
          have hdp := HDL.out p
          have hca := ho4.cell hx hya
          have hci := ho4.cell hlt hx3
          have hzi := ho4.froz i
          have hun := upD_snoc (depthG m.reverse) (ps.take k) p
          rw [← HT.out] at hun
          have hul : upD (depthG m.reverse) (ps.take k) ≤ m.length + 1 := upD_le _ _ HDL.out _
          generalize upD (depthG m.reverse) (ps.take k) = cu at hci hx3 hun hul
          generalize depthG m.reverse p = dp at hca hya hdp hun
          have w3' : wrap64 ((dp : Int) + 1) = dp + 1 := by unfold wrap64; omega
          have HUN := Lib.hid hun
          have HX3 := Lib.hid hx3
          clear e1 e2 hya hun hx3 rp ho3
          by_cases hcd : cu < dp + 1
          · have c1 : (cu : Int) < (dp : Int) + 1 := by omega
            have c2 : (cu : Int) ≤ (dp : Int) := by omega
            have c3 : cu ≤ dp := by omega
            obtain ⟨ho5, f5⟩ := ho4.put i (.int .i64 ((dp : Int) + 1))
            have hd5 := HD3.out.set (.int .i64 ((dp : Int) + 1))
            have hyl : i < ys.length := by have := HD3.out.1; omega
            have hx5 : (ys.set i (.int .i64 ((dp : Int) + 1)))[i]? = some (.int .i64 (upD (depthG m.reverse) (ps.take (k + 1)))) := by
              rw [List.getElem?_set_self hyl, HUN.out, Nat.max_eq_right (by omega)]; simp
            have HD5 := Lib.hid hd5
            have HX5 := Lib.hid hx5
            clear hd5 hx5
            go_wp2_with fail
            go_roundg (ps.length - (k + 1))
            case measure => omega
            case rel => exact ⟨k + 1, _, by simp, rfl, by omega, ho5, HD5.out, HX5.out, hf4.step1 f5 (Nat.le_of_eq S1.out)⟩
          · have c1 : ¬ (cu : Int) < (dp : Int) + 1 := by omega
            have c2 : ¬ (cu : Int) ≤ (dp : Int) := by omega
            have c3 : ¬ cu ≤ dp := by omega
            have hx5 : ys[i]? = some (.int .i64 (upD (depthG m.reverse) (ps.take (k + 1)))) := by
              rw [HX3.out, HUN.out, Nat.max_eq_left (by omega)]
            have HX5 := Lib.hid hx5
            clear hx5
            go_wp2_with fail
            go_roundg (ps.length - (k + 1))
            case measure => omega
            case rel => exact ⟨k + 1, _, by simp, rfl, by omega, ho4, HD3.out, HX5.out, hf4⟩
        · have ek : k = ps.length := by omega
          subst ek
          rw [List.take_length, ← HPAR.out] at hx3
          have rb := rdI_fr b1 (rdI_lt b1) hf3.drew (by simp [noB])
          have rn := HID.out _ hf3.drew
          have hci := (ho3.frX (Fr.refl noB wr).drew (by simp [noB])).cell hlt hx3
          have hd4 := HD3.out.succ hlt hx3
          have HD4 := Lib.hid hd4
          clear hd4 hx3
          generalize (m[i]).1 = z at rn HNE hci
          go_wp2_with fail
          refine wp_region_H (fun w' => rdI w' g (off + i * 33) = some z ∧ rdI w' P 0 = some x) (by kernel_rfl) ⟨rn, rb⟩ (fun hF => ?_)
          refine wpAnyH_take (i := 0) (v := ?_) rfl (by kernel_rfl) (by kernel_rfl) (by kernel_rfl) (fun _ _ _ h => h) (Or.inl ⟨by rfl, ?_⟩) hF ?_
          rotate_left
          · intro wS hSw; (try dsimp only at hSw); obtain ⟨s1, s2⟩ := hSw; first | (apply Eq.trans; apply ex_ld_id; exact rfl; exact rfl; assumption; with_reducible rfl) | (apply Eq.trans; apply ex_ld_arr; exact rfl; exact rfl; assumption; with_reducible rfl) | (go_simp; try with_reducible rfl)
          try simp only [List.getElem_toArray, List.getElem_cons_zero, List.getElem_cons_succ, Act.put, List.setIfInBounds_toArray, List.set_cons_zero, List.set_cons_succ]
          refine wpAnyH_take (i := 1) (v := ?_) rfl (by kernel_rfl) (by kernel_rfl) (by kernel_rfl) (fun _ _ _ h => h) (Or.inl ⟨by rfl, ?_⟩) hF ?_
          rotate_left
          · intro wS hSw; (try dsimp only at hSw); obtain ⟨s1, s2⟩ := hSw; first | (apply Eq.trans; apply ex_ld_id; exact rfl; exact rfl; assumption; with_reducible rfl) | (apply Eq.trans; apply ex_ld_arr; exact rfl; exact rfl; assumption; with_reducible rfl) | (go_simp; try with_reducible rfl)
          try simp only [List.getElem_toArray, List.getElem_cons_zero, List.getElem_cons_succ, Act.put, List.setIfInBounds_toArray, List.set_cons_zero, List.set_cons_succ]
          refine wpAnyH_take (i := 2) (v := ?_) rfl (by kernel_rfl) (by kernel_rfl) (by kernel_rfl) (fun _ _ _ h => h) (Or.inl ⟨by rfl, ?_⟩) hF ?_
          rotate_left
          · intro wS hSw; (try dsimp only at hSw); obtain ⟨s1, s2⟩ := hSw; first | (apply Eq.trans; apply ex_ld_id; exact rfl; exact rfl; assumption; with_reducible rfl) | (apply Eq.trans; apply ex_ld_arr; exact rfl; exact rfl; assumption; with_reducible rfl) | (go_simp; try with_reducible rfl)
          try simp only [List.getElem_toArray, List.getElem_cons_zero, List.getElem_cons_succ, Act.put, List.setIfInBounds_toArray, List.set_cons_zero, List.set_cons_succ]
          refine wpAnyH_take (i := 3) (v := ?_) rfl (by kernel_rfl) (by kernel_rfl) (by kernel_rfl) (fun _ _ _ h => h) (Or.inl ⟨by rfl, ?_⟩) hF ?_
          rotate_left
          · intro wS hSw; (try dsimp only at hSw); obtain ⟨s1, s2⟩ := hSw; first | (apply Eq.trans; apply ex_ld_id; exact rfl; exact rfl; assumption; with_reducible rfl) | (apply Eq.trans; apply ex_ld_arr; exact rfl; exact rfl; assumption; with_reducible rfl) | (go_simp; try with_reducible rfl)
          try simp only [List.getElem_toArray, List.getElem_cons_zero, List.getElem_cons_succ, Act.put, List.setIfInBounds_toArray, List.set_cons_zero, List.set_cons_succ]
          refine wpAnyH_take (i := 4) (v := ?_) rfl (by kernel_rfl) (by kernel_rfl) (by kernel_rfl) (fun _ _ _ h => h) (Or.inl ⟨by rfl, ?_⟩) hF ?_
          rotate_left
          · intro wS hSw; (try dsimp only at hSw); obtain ⟨s1, s2⟩ := hSw; first | (apply Eq.trans; apply ex_ld_id; exact rfl; exact rfl; assumption; with_reducible rfl) | (apply Eq.trans; apply ex_ld_arr; exact rfl; exact rfl; assumption; with_reducible rfl) | (go_simp; try with_reducible rfl)
          try simp only [List.getElem_toArray, List.getElem_cons_zero, List.getElem_cons_succ, Act.put, List.setIfInBounds_toArray, List.set_cons_zero, List.set_cons_succ]
          refine wpAnyH_take (i := 5) (v := ?_) rfl (by kernel_rfl) (by kernel_rfl) (by kernel_rfl) (fun _ _ _ h => h) (Or.inl ⟨by rfl, ?_⟩) hF ?_
          rotate_left
          · intro wS hSw; (try dsimp only at hSw); obtain ⟨s1, s2⟩ := hSw; first | (apply Eq.trans; apply ex_ld_id; exact rfl; exact rfl; assumption; with_reducible rfl) | (apply Eq.trans; apply ex_ld_arr; exact rfl; exact rfl; assumption; with_reducible rfl) | (go_simp; try with_reducible rfl)
          try simp only [List.getElem_toArray, List.getElem_cons_zero, List.getElem_cons_succ, Act.put, List.setIfInBounds_toArray, List.set_cons_zero, List.set_cons_succ]
          refine wpAnyH_take (i := 6) (v := ?_) rfl (by kernel_rfl) (by kernel_rfl) (by kernel_rfl) (fun _ _ _ h => h) (Or.inl ⟨by rfl, ?_⟩) hF ?_
          rotate_left
          · intro wS hSw; (try dsimp only at hSw); obtain ⟨s1, s2⟩ := hSw; first | (apply Eq.trans; apply ex_ld_id; exact rfl; exact rfl; assumption; with_reducible rfl) | (apply Eq.trans; apply ex_ld_arr; exact rfl; exact rfl; assumption; with_reducible rfl) | (go_simp; try with_reducible rfl)
          try simp only [List.getElem_toArray, List.getElem_cons_zero, List.getElem_cons_succ, Act.put, List.setIfInBounds_toArray, List.set_cons_zero, List.set_cons_succ]
          refine wpAnyH_done (by kernel_rfl) ?_ _
          clear hF
          by_cases hzx : z = x
          · subst hzx
            have e1 : decide (z = z) = true := by simp
            rw [e1]
            go_wp2_with fail
            go_ret
            exact ⟨rfl, f0.step0 hf3.drew⟩
          · have e1 : decide (z = x) = false := by simpa using hzx
            have HZ := Lib.hid hzx
            clear hzx
            rw [e1]
            go_wp2_with fail
            go_roundg (m.length - (i + 1))
            case measure => omega
            case rel => exact ⟨i + 1, _, by simp, rfl, by omega, ho3.frX (Fr.refl noB _).drew (by simp [noB]), HD4.out, HNE.out HZ.out, hf3.drew⟩
    · have ei : i = m.length := by omega
      have hle := findN_le m x
      have hnone : depthG m.reverse x = 0 := by
        apply depth_none
        have : ¬ (hasG m.reverse x = true) := fun hh => by have := (findN_has m x).2 hh; omega
        unfold hasG at this
        cases hp : parents m.reverse x with
        | none => rfl
        | some q => rw [hp] at this; exact absurd rfl this
      have HN := Lib.hid hnone
      clear hnone
      go_wp2_with fail
      go_ret
      exact ⟨by rw [HN.out]; rfl, f0.step0 hf⟩
end Go.Proofs.Ytchiclnnoealdaa
