/- Contracts: the reference's sameData, Alive, Alike over rows. (ex_ldS_at) -/
import Derived.Test.YtefcalkbfaefgaaR13K
import Derived.Test.YtefcalkbfaefgaaDifKK
namespace Go.Proofs.Ytefcalkbfaefgaa
open Go.RowKit
set_option linter.unusedVariables false
set_option linter.unusedSimpArgs false

theorem hdD {w : World} {b o : Nat} {x : Hd} (h : codH.rd w b o = some x) : rdI w b (o + 2) = some x.Data := by
  have g := getApp x.Data [.int .i64 x.At.T, .int .i64 x.At.R] [] 2 rfl
  rw [List.append_nil] at g
  exact Cod.rdI_part h 2 g
set_option maxRecDepth 100000 in
set_option maxHeartbeats 1000000 in
theorem r14same_any (w : World) (A B : Option Addr) (c d n m : Nat) (xs ys : List Hd) (hn : xs.length = n) (hm : ys.length = m) (hA : Sl w A (codH.row xs)) (hB : Sl w B (codH.row ys)) (hb : xs.length ≤ 140737488355328) (hb2 : ys.length ≤ 140737488355328) :
    Calls Try.prog 31 #[.slice A n c, .slice B m d] w (Gives w (.bool (sameDt xs ys))) := by
  subst hn hm
  by_cases hl : xs.length = ys.length
  · have HL := Lib.hid hl
    have e1 : ((xs.length : Int) != (xs.length : Int)) = false := by simp
    rw [← hl]
    clear hl
    go_enter Try.func31, Try.ntmps31
    go_upto_region 4 with fail
    go_loopg [5] xs.length (fun gk iv wr => EqhR w xs ys gk iv wr)
    case atStart => exact ⟨0, rfl, by omega, by omega, fun j h1 h2 h3 => by omega, Fr.refl _ _⟩
    case round =>
      obtain ⟨k, rfl, rfl, hk, hj, hf⟩ := hrel
      have HJ := Lib.hid hj
      clear hj
      by_cases hlt : k < xs.length
      · have hlt2 : k < ys.length := by rw [← HL.out]; exact hlt
        have i1 : (k : Int) < (xs.length : Int) := by omega
        have i0 : (0 : Int) ≤ (k : Int) := by omega
        obtain ⟨g, off, rfl, hg⟩ := hA.adC (by omega)
        obtain ⟨g2, off2, rfl, hg2⟩ := hB.adC (by omega)
        have hne : xs[k].Data ≠ ys[k].Data → sameDt xs ys = false := fun h => sameDt_ne hlt hlt2 h
        have heq : xs[k].Data = ys[k].Data → ∀ j (h1 : j < xs.length) (h2 : j < ys.length), j < k + 1 → xs[j].Data = ys[j].Data := fun h j h1 h2 h3 => by
          by_cases e : j = k
          · subst e; exact h
          · exact HJ.out j h1 h2 (by omega)
        have HNE := Lib.hid hne
        have HEQ := Lib.hid heq
        have e1 : codH.rd wr g (off + k * 34) = some xs[k] := (hA.fr0 hf).rd k hlt
        have e2 : codH.rd wr g2 (off2 + k * 34) = some ys[k] := (hB.fr0 hf).rd k hlt2
        have d1 := hdD e1
        have d2 := hdD e2
        clear hne heq e1 e2
        generalize xs[k].Data = x at d1 HNE HEQ
        generalize ys[k].Data = y at d2 HNE HEQ
        go_upto_region 6 with fail
        refine wp_region_H (fun w' => rdI w' g (off + k * 34 + 2) = some x ∧ rdI w' g2 (off2 + k * 34 + 2) = some y) (by kernel_rfl) ⟨by rw [rdI_drew]; exact d1, by rw [rdI_drew]; exact d2⟩ (fun hF => ?_)
        refine wpAnyH_take (i := 0) (v := ?_) rfl (by kernel_rfl) (by kernel_rfl) (by kernel_rfl) (fun _ _ _ h => h) (Or.inl ⟨by rfl, ?_⟩) hF ?_
        rotate_left
        · intro wS hSw; (try dsimp only at hSw); obtain ⟨s1, s2⟩ := hSw; first | (apply Eq.trans; apply ex_ld_id; exact rfl; exact rfl; assumption; with_reducible rfl) | (apply Eq.trans; apply ex_ldS_at; exact rfl; exact rfl; assumption; with_reducible rfl) | (go_simp; try with_reducible rfl)
        try simp only [List.getElem_toArray, List.getElem_cons_zero, List.getElem_cons_succ, Act.put, List.setIfInBounds_toArray, List.set_cons_zero, List.set_cons_succ]
        refine wpAnyH_take (i := 1) (v := ?_) rfl (by kernel_rfl) (by kernel_rfl) (by kernel_rfl) (fun _ _ _ h => h) (Or.inl ⟨by rfl, ?_⟩) hF ?_
        rotate_left
        · intro wS hSw; (try dsimp only at hSw); obtain ⟨s1, s2⟩ := hSw; first | (apply Eq.trans; apply ex_ld_id; exact rfl; exact rfl; assumption; with_reducible rfl) | (apply Eq.trans; apply ex_ldS_at; exact rfl; exact rfl; assumption; with_reducible rfl) | (go_simp; try with_reducible rfl)
        try simp only [List.getElem_toArray, List.getElem_cons_zero, List.getElem_cons_succ, Act.put, List.setIfInBounds_toArray, List.set_cons_zero, List.set_cons_succ]
        refine wpAnyH_take (i := 2) (v := ?_) rfl (by kernel_rfl) (by kernel_rfl) (by kernel_rfl) (fun _ _ _ h => h) (Or.inl ⟨by rfl, ?_⟩) hF ?_
        rotate_left
        · intro wS hSw; (try dsimp only at hSw); obtain ⟨s1, s2⟩ := hSw; first | (apply Eq.trans; apply ex_ld_id; exact rfl; exact rfl; assumption; with_reducible rfl) | (apply Eq.trans; apply ex_ldS_at; exact rfl; exact rfl; assumption; with_reducible rfl) | (go_simp; try with_reducible rfl)
        try simp only [List.getElem_toArray, List.getElem_cons_zero, List.getElem_cons_succ, Act.put, List.setIfInBounds_toArray, List.set_cons_zero, List.set_cons_succ]
        refine wpAnyH_take (i := 3) (v := ?_) rfl (by kernel_rfl) (by kernel_rfl) (by kernel_rfl) (fun _ _ _ h => h) (Or.inl ⟨by rfl, ?_⟩) hF ?_
        rotate_left
        · intro wS hSw; (try dsimp only at hSw); obtain ⟨s1, s2⟩ := hSw; first | (apply Eq.trans; apply ex_ld_id; exact rfl; exact rfl; assumption; with_reducible rfl) | (apply Eq.trans; apply ex_ldS_at; exact rfl; exact rfl; assumption; with_reducible rfl) | (go_simp; try with_reducible rfl)
        try simp only [List.getElem_toArray, List.getElem_cons_zero, List.getElem_cons_succ, Act.put, List.setIfInBounds_toArray, List.set_cons_zero, List.set_cons_succ]
        refine wpAnyH_take (i := 4) (v := ?_) rfl (by kernel_rfl) (by kernel_rfl) (by kernel_rfl) (fun _ _ _ h => h) (Or.inl ⟨by rfl, ?_⟩) hF ?_
        rotate_left
        · intro wS hSw; (try dsimp only at hSw); obtain ⟨s1, s2⟩ := hSw; first | (apply Eq.trans; apply ex_ld_id; exact rfl; exact rfl; assumption; with_reducible rfl) | (apply Eq.trans; apply ex_ldS_at; exact rfl; exact rfl; assumption; with_reducible rfl) | (go_simp; try with_reducible rfl)
        try simp only [List.getElem_toArray, List.getElem_cons_zero, List.getElem_cons_succ, Act.put, List.setIfInBounds_toArray, List.set_cons_zero, List.set_cons_succ]
        refine wpAnyH_take (i := 5) (v := ?_) rfl (by kernel_rfl) (by kernel_rfl) (by kernel_rfl) (fun _ _ _ h => h) (Or.inl ⟨by rfl, ?_⟩) hF ?_
        rotate_left
        · intro wS hSw; (try dsimp only at hSw); obtain ⟨s1, s2⟩ := hSw; first | (apply Eq.trans; apply ex_ld_id; exact rfl; exact rfl; assumption; with_reducible rfl) | (apply Eq.trans; apply ex_ldS_at; exact rfl; exact rfl; assumption; with_reducible rfl) | (go_simp; try with_reducible rfl)
        try simp only [List.getElem_toArray, List.getElem_cons_zero, List.getElem_cons_succ, Act.put, List.setIfInBounds_toArray, List.set_cons_zero, List.set_cons_succ]
        refine wpAnyH_take (i := 6) (v := ?_) rfl (by kernel_rfl) (by kernel_rfl) (by kernel_rfl) (fun _ _ _ h => h) (Or.inl ⟨by rfl, ?_⟩) hF ?_
        rotate_left
        · intro wS hSw; (try dsimp only at hSw); obtain ⟨s1, s2⟩ := hSw; first | (apply Eq.trans; apply ex_ld_id; exact rfl; exact rfl; assumption; with_reducible rfl) | (apply Eq.trans; apply ex_ldS_at; exact rfl; exact rfl; assumption; with_reducible rfl) | (go_simp; try with_reducible rfl)
        try simp only [List.getElem_toArray, List.getElem_cons_zero, List.getElem_cons_succ, Act.put, List.setIfInBounds_toArray, List.set_cons_zero, List.set_cons_succ]
        refine wpAnyH_take (i := 7) (v := ?_) rfl (by kernel_rfl) (by kernel_rfl) (by kernel_rfl) (fun _ _ _ h => h) (Or.inl ⟨by rfl, ?_⟩) hF ?_
        rotate_left
        · intro wS hSw; (try dsimp only at hSw); obtain ⟨s1, s2⟩ := hSw; first | (apply Eq.trans; apply ex_ld_id; exact rfl; exact rfl; assumption; with_reducible rfl) | (apply Eq.trans; apply ex_ldS_at; exact rfl; exact rfl; assumption; with_reducible rfl) | (go_simp; try with_reducible rfl)
        try simp only [List.getElem_toArray, List.getElem_cons_zero, List.getElem_cons_succ, Act.put, List.setIfInBounds_toArray, List.set_cons_zero, List.set_cons_succ]
        refine wpAnyH_take (i := 8) (v := ?_) rfl (by kernel_rfl) (by kernel_rfl) (by kernel_rfl) (fun _ _ _ h => h) (Or.inl ⟨by rfl, ?_⟩) hF ?_
        rotate_left
        · intro wS hSw; (try dsimp only at hSw); obtain ⟨s1, s2⟩ := hSw; first | (apply Eq.trans; apply ex_ld_id; exact rfl; exact rfl; assumption; with_reducible rfl) | (apply Eq.trans; apply ex_ldS_at; exact rfl; exact rfl; assumption; with_reducible rfl) | (go_simp; try with_reducible rfl)
        try simp only [List.getElem_toArray, List.getElem_cons_zero, List.getElem_cons_succ, Act.put, List.setIfInBounds_toArray, List.set_cons_zero, List.set_cons_succ]
        refine wpAnyH_take (i := 9) (v := ?_) rfl (by kernel_rfl) (by kernel_rfl) (by kernel_rfl) (fun _ _ _ h => h) (Or.inl ⟨by rfl, ?_⟩) hF ?_
        rotate_left
        · intro wS hSw; (try dsimp only at hSw); obtain ⟨s1, s2⟩ := hSw; first | (apply Eq.trans; apply ex_ld_id; exact rfl; exact rfl; assumption; with_reducible rfl) | (apply Eq.trans; apply ex_ldS_at; exact rfl; exact rfl; assumption; with_reducible rfl) | (go_simp; try with_reducible rfl)
        try simp only [List.getElem_toArray, List.getElem_cons_zero, List.getElem_cons_succ, Act.put, List.setIfInBounds_toArray, List.set_cons_zero, List.set_cons_succ]
        by_cases hxy : x = y
        · subst hxy
          have HE := Lib.hid (HEQ.out rfl)
          clear HNE HEQ
          refine wpAnyH_take (i := 10) (v := ?_) rfl (by kernel_rfl) (by kernel_rfl) (by kernel_rfl) (fun _ _ _ h => h) (Or.inl ⟨by rfl, ?_⟩) hF ?_
          rotate_left
          · intro wS hSw; (try dsimp only at hSw); obtain ⟨s1, s2⟩ := hSw; first | (apply Eq.trans; apply ex_ld_id; exact rfl; exact rfl; assumption; with_reducible rfl) | (apply Eq.trans; apply ex_ldS_at; exact rfl; exact rfl; assumption; with_reducible rfl) | (go_simp; try with_reducible rfl)
          try simp only [List.getElem_toArray, List.getElem_cons_zero, List.getElem_cons_succ, Act.put, List.setIfInBounds_toArray, List.set_cons_zero, List.set_cons_succ]
          refine wpAnyH_done (by kernel_rfl) ?_ _
          clear hF
          go_wp2_with fail
          go_roundg (xs.length - (k + 1))
          case measure => omega
          case rel => exact ⟨k + 1, by simp, rfl, by omega, HE.out, hf.drew⟩
        · have HE := Lib.hid (HNE.out hxy)
          clear HNE HEQ
          refine wpAnyH_take (i := 10) (v := ?_) rfl (by kernel_rfl) (by kernel_rfl) (by kernel_rfl) (fun _ _ _ h => h) (Or.inl ⟨by rfl, ?_⟩) hF ?_
          rotate_left
          · intro wS hSw; (try dsimp only at hSw); obtain ⟨s1, s2⟩ := hSw; first | (apply Eq.trans; apply ex_ld_id; exact rfl; exact rfl; assumption; with_reducible rfl) | (apply Eq.trans; apply ex_ldS_at; exact rfl; exact rfl; assumption; with_reducible rfl) | (go_simp; try with_reducible rfl)
          try simp only [List.getElem_toArray, List.getElem_cons_zero, List.getElem_cons_succ, Act.put, List.setIfInBounds_toArray, List.set_cons_zero, List.set_cons_succ]
          refine wpAnyH_done (by kernel_rfl) ?_ _
          clear hF
          go_wp2_with fail
          go_ret
          exact ⟨by rw [HE.out]; rfl, hf.drew⟩
      · have hkn : k = xs.length := by omega
        subst hkn
        have i1 : ¬ (xs.length : Int) < (xs.length : Int) := by omega
        have HE := Lib.hid (sameDt_all HL.out HJ.out)
        go_wp2_with fail
        go_ret
        exact ⟨by rw [HE.out]; rfl, hf⟩
  · have HE := Lib.hid (sameDt_len hl)
    have hl' : ((xs.length : Int) != (ys.length : Int)) = true := by rw [bne_iff_ne]; omega
    go_enter Try.func31, Try.ntmps31
    go_wp2_with fail
    go_ret
    exact ⟨by rw [HE.out]; rfl, Fr.refl _ _⟩
def NwTo (w : World) (ys : List RwP) (e : Ending) (w' : World) : Prop :=
  ∃ (A : Option Addr) (c : Nat) (ls : List RwW), e = .returned (.slice A ls.length c) ∧ Sl w' A (codR.row ls) ∧ RwsIn w' ls ys ∧ Fr noB w w'
def NwR (w : World) (xs : List RwP) (p : RwP → Bool) (gk : Nat) (ov iv : Value) (wr : World) : Prop :=
  ∃ (k : Nat) (A : Option Addr) (c : Nat) (ls : List RwW), iv = .int .i64 (k : Int) ∧ ov = .slice A ls.length c ∧ gk = xs.length - k ∧ k ≤ xs.length ∧ OwnC codR w wr A c ls ∧ RwsIn w ls ((xs.take k).filter p) ∧ Fr noB w wr
theorem RwsIn.snoc {w : World} {rs : List RwW} {xs : List RwP} (h : RwsIn w rs xs) {r : RwW} {x : RwP} (hi : RwIn w r x) : RwsIn w (rs ++ [r]) (xs ++ [x]) :=
  ⟨by simp [h.len], fun i h1 h2 => by
    rcases Nat.lt_or_ge i rs.length with h3 | h3
    · have h4 : i < xs.length := by rw [← h.len]; exact h3
      rw [List.getElem_append_left h3, List.getElem_append_left h4]
      exact h.at_ i h3 h4
    · have h5 : i = rs.length := by simp at h1; omega
      have h6 : i = xs.length := by rw [← h.len]; exact h5
      have e1 : (rs ++ [r])[i] = r := by subst h5; simp
      have e2 : (xs ++ [x])[i] = x := by subst h6; simp
      rw [e1, e2]
      exact hi⟩
set_option maxRecDepth 100000 in
set_option maxHeartbeats 4000000 in
theorem r14alive_any (w : World) (A : Option Addr) (c n : Nat) (rs : List RwW) (xs : List RwP) (hn : rs.length = n) (hs : Sl w A (codR.row rs)) (hb : rs.length ≤ 100000) (hX : RwsIn w rs xs) :
    Calls Try.prog 9 #[.slice A n c] w (NwTo w (xs.filter fun r => !liesR xs r.Node trS)) := by
  subst hn
  have hXL := Lib.hid hX.len
  have hown := World.ownsRow_lit (base := w.heap.size) (e := 44) (size := 8) w #[] 0 (Nat.le_refl _) (by simp [maxLen]) rfl
  have f0 : Fr noB w (w.alloc (.cells #[] 44)) := (Fr.refl noB w).alloc _
  obtain ⟨p, hp⟩ : ∃ p : RwP → Bool, p = fun r => !liesR xs r.Node trS := ⟨_, rfl⟩
  have HPP := Lib.hid (fun x : RwP => (congrFun hp x : p x = !liesR xs x.Node trS))
  rw [← hp]
  clear hp
  go_enter Try.func9, Try.ntmps9
  go_wp2_with fail
  go_loopg [3, 4] xs.length (fun gk ov iv wr => NwR w xs p gk ov iv wr)
  case atStart => exact ⟨0, _, 0, [], rfl, rfl, by omega, by omega, hown, ⟨rfl, fun i h => absurd h (by simp)⟩, f0⟩
  case round =>
    clear hown f0
    obtain ⟨k, A4, c4, ls, rfl, rfl, hgk, hk, hown, hro, hf⟩ := hrel
    have HGK := Lib.hid hgk
    have hllk : ls.length ≤ k := by
      rw [hro.len]
      exact length_filter_take _ _ _
    have HRO := Lib.hid hro
    clear hgk hro
    by_cases hlt2 : k < xs.length
    · have hlt : k < rs.length := by rw [hXL.out]; exact hlt2
      have i1 : (k : Int) < (rs.length : Int) := by omega
      have i0 : (0 : Int) ≤ (k : Int) := by omega
      have hSr := hs.fr0 hf
      obtain ⟨g, off, rfl, hg⟩ := hSr.adC (by omega)
      have q : RwAtO wr g (off + k * 8) rs[k] := rwAtO (hSr.rd k hlt)
      have hin : RwIn w rs[k] xs[k] := hX.at_ k hlt hlt2
      have hnx := filter_take_succ p xs k hlt2
      have e1 := q.node
      have e2 := q.self
      rw [← hin.node] at e1
      have hpx := HPP.out xs[k]
      generalize rs[k] = r at e2 hin q
      generalize xs[k] = x at hin hnx e1 hpx
      have HLI := Lib.hid (r12lies_any wr (some ⟨g, off, none⟩) c rs.length rs xs rfl hSr (by omega) (hX.fr hf) x.Node trS)
      obtain ⟨b, hbb⟩ : ∃ b, b = liesR xs x.Node trS := ⟨_, rfl⟩
      rw [← hbb] at HLI hpx
      rw [hpx] at hnx
      have HNX := Lib.hid hnx
      have HIN := Lib.hid hin
      clear q hin hnx hpx hbb hSr
      cases b with
      | true =>
        go_wp2_with (go_at_call 22; refine HLI.out.mono ?_; rintro e w5 ⟨rfl, f5⟩)
        go_roundg (xs.length - (k + 1))
        case measure => have := HGK.out; omega
        case rel => exact ⟨k + 1, A4, c4, ls, by simp, rfl, rfl, by omega, own_new0 hown f5, by rw [HNX.out]; simpa using HRO.out, hf.step0 f5⟩
      | false =>
        go_upto_region 6 with (go_at_call 22; refine HLI.out.mono ?_; rintro e w5 ⟨rfl, f5⟩)
        have e5 := Cod.rd_fr0 e2 f5
        have fr_ : Fr noB w5 (w5.alloc (codR.ro [r])) := (Fr.refl noB w5).alloc _
        have sl := Cod.sl_new (C := codR) w5 [r]
        have hown5 := own_new0 (own_new0 hown f5) fr_
        have hf5 := (hf.step0 f5).step0 fr_
        clear e1 e2 hown fr_
        go_wp2_with (at_builtin; refine wpList_appC' etR w _ rfl _ _ rfl A4 ls.length c4 ls rfl rfl hown5 (some ⟨w5.heap.size, 0, none⟩) 1 1 [r] rfl sl rfl (by simp; omega) hf5.size ?_; intro A7 c7 w7 hc7 hmx7 ho7 hg7 hA7; obtain ⟨ls', hls'⟩ : ∃ l : List RwW, l = ls ++ [r] := ⟨_, rfl⟩; rw [← hls'] at ho7 ⊢; have HLE := Lib.hid hls'; clear hls' hmx7 hc7)
        have hf7 := Fr.own' hf5 hown5 hg7
        go_roundg (xs.length - (k + 1))
        case measure => have := HGK.out; omega
        case rel => exact ⟨k + 1, A7, c7, ls', by simp, rfl, rfl, by omega, ho7, by rw [HNX.out, HLE.out]; exact HRO.out.snoc HIN.out, hf7⟩
    · have hkn : k = xs.length := by omega
      subst hkn
      have i1 : ¬ (xs.length : Int) < (rs.length : Int) := by rw [hXL.out]; omega
      go_wp2_with fail
      go_ret
      refine ⟨A4, c4, ls, rfl, Sl.own hown, ?_, hf⟩
      have := HRO.out.fr hf
      rwa [List.take_length] at this
set_option maxRecDepth 100000 in
set_option maxHeartbeats 4000000 in
theorem r14alike_any (w : World) (A B : Option Addr) (c d n m : Nat) (rs ss : List RwW) (xs ys : List RwP) (hn : rs.length = n) (hm : ss.length = m) (hA : Sl w A (codR.row rs)) (hB : Sl w B (codR.row ss)) (hX : RwsIn w rs xs) (hY : RwsIn w ss ys) (hb : rs.length ≤ 100000) (hb2 : ss.length ≤ 100000) :
    Calls Try.prog 11 #[.slice A n c, .slice B m d] w (Gives w (.bool (allTwo alikeRP (xs.filter fun r => !liesR xs r.Node trS) (ys.filter fun r => !liesR ys r.Node trS)))) := by
  subst hn hm
  obtain ⟨us, hus⟩ : ∃ us, us = xs.filter fun r => !liesR xs r.Node trS := ⟨_, rfl⟩
  obtain ⟨vs, hvs⟩ : ∃ vs, vs = ys.filter fun r => !liesR ys r.Node trS := ⟨_, rfl⟩
  have hu1 : us.length ≤ 100000 := by rw [hus]; have := List.length_filter_le (fun r => !liesR xs r.Node trS) xs; have := hX.len; omega
  have hv1 : vs.length ≤ 100000 := by rw [hvs]; have := List.length_filter_le (fun r => !liesR ys r.Node trS) ys; have := hY.len; omega
  have C1 := Lib.hid (r14alive_any w A c rs.length rs xs rfl hA hb hX)
  have C2 := Lib.hid (fun w' (f : Fr noB w w') => r14alive_any w' B d ss.length ss ys rfl (hB.fr0 f) hb2 (hY.fr f))
  rw [← hus] at C1 ⊢
  rw [← hvs] at C2 ⊢
  clear hus hvs hX hY hA hB
  have tok : True := trivial
  go_enter Try.func11, Try.ntmps11
  go_upto_region 2 with (first
    | (go_at_call 9; have _t := tok; refine C1.out.mono ?_; rintro e w1 ⟨A1, c1, ls1, rfl, s1, r1, f1⟩; clear tok _t)
    | (go_at_call 9; refine (C2.out w1 f1).mono ?_; rintro e w2 ⟨A2, c2, ls2, rfl, s2, r2, f2⟩))
  replace s1 := s1.fr0 f2
  replace r1 := r1.fr f2
  have F := f1.step0 f2
  have HL1 := Lib.hid r1.len
  have HL2 := Lib.hid r2.len
  clear f1 f2 C1 C2
  by_cases hl : ls1.length = ls2.length
  · have e1 : ((ls1.length : Int) != (ls2.length : Int)) = false := by rw [hl]; simp
    have HLL := Lib.hid (show us.length = vs.length by rw [← HL1.out, ← HL2.out]; exact hl)
    clear hl
    go_upto_region 5 with fail
    go_loopg [7] ls1.length (fun gk iv wr => ∃ k : Nat, iv = .int .i64 (k : Int) ∧ gk = ls1.length - k ∧ k ≤ ls1.length ∧ (∀ j (h1 : j < us.length) (h2 : j < vs.length), j < k → alikeRP us[j] vs[j] = true) ∧ Fr noB w2 wr)
    case atStart => exact ⟨0, rfl, by omega, by omega, fun j h1 h2 h3 => by omega, Fr.refl _ _⟩
    case round =>
      obtain ⟨k, rfl, rfl, hk, hj, hf⟩ := hrel
      have HJ := Lib.hid hj
      clear hj
      by_cases hlt : k < ls1.length
      · have hlu : k < us.length := by rw [← HL1.out]; exact hlt
        have hlv : k < vs.length := by rw [← HLL.out]; exact hlu
        have hlt2 : k < ls2.length := by rw [HL2.out]; exact hlv
        have i1 : (k : Int) < (ls1.length : Int) := by omega
        have i2 : (k : Int) < (ls2.length : Int) := by omega
        have i0 : (0 : Int) ≤ (k : Int) := by omega
        obtain ⟨g, off, rfl, hg⟩ := s1.adC (by omega)
        obtain ⟨g', off', rfl, hg'⟩ := s2.adC (by omega)
        have x1 := r1.at_ k hlt hlu
        have x2 := r2.at_ k hlt2 hlv
        have q : RwAtO wr g (off + k * 8) ls1[k] := rwAtO ((s1.fr0 hf).rd k hlt)
        have q' : RwAtO wr g' (off' + k * 8) ls2[k] := rwAtO ((s2.fr0 hf).rd k hlt2)
        replace hg := Nat.lt_of_lt_of_le hg hf.size
        replace hg' := Nat.lt_of_lt_of_le hg' hf.size
        have heq : alikeRP us[k] vs[k] = true → ∀ j (h1 : j < us.length) (h2 : j < vs.length), j < k + 1 → alikeRP us[j] vs[j] = true := fun h j h1 h2 h3 => by
          by_cases e : j = k
          · subst e; exact h
          · exact HJ.out j h1 h2 (by omega)
        have HEQ := Lib.hid heq
        have HNE := Lib.hid (fun h : alikeRP us[k] vs[k] = false => allTwo_ne alikeRP hlu hlv h)
        clear heq
        generalize ls1[k] = r at x1 q
        generalize ls2[k] = s at x2 q'
        generalize us[k] = x at x1 HEQ HNE
        generalize vs[k] = y at x2 HEQ HNE
        have D1 : ∀ wS, Fr noB wr wS → Calls Try.prog 31 #[.slice r.A r.n r.c, .slice s.A s.n s.c] wS (Gives wS (.bool (sameDt x.Heads y.Heads))) := fun wS f => r14same_any wS r.A s.A r.c s.c r.n s.n x.Heads y.Heads x1.len x2.len ((x1.sl.fr0 hf).fr0 f) ((x2.sl.fr0 hf).fr0 f) x1.bd x2.bd
        have HM := Lib.hid (show alikeRP x y = (decide (r.Node = s.Node) && decide (r.Parent = s.Parent) && decide (r.Name = s.Name) && sameDt x.Heads y.Heads) by
          unfold alikeRP
          rw [x1.node, x2.node, x1.parent, x2.parent, x1.name, x2.name])
        obtain ⟨a1, a2, a3, a4, a5, a6⟩ := q
        obtain ⟨b1, b2, b3, b4, b5, b6⟩ := q'
        clear a3 a6 b3 b6 x1 x2
        generalize sameDt x.Heads y.Heads = sd at D1 HM
        go_upto_region 7 with fail
        by_cases h1 : r.Node = s.Node
        · have d1 : decide (r.Node = s.Node) = true := by simp [h1]
          by_cases h2 : r.Parent = s.Parent
          · have d2 : decide (r.Parent = s.Parent) = true := by simp [h2]
            by_cases h3 : r.Name = s.Name
            · have d3 : decide (r.Name = s.Name) = true := by simp [h3]
              cases sd with
              | true =>
                have HE := Lib.hid (HEQ.out (by rw [HM.out, d1, d2, d3]; rfl))
                clear h1 h2 h3 HNE HEQ HM
                refine wp_region_fr (by kernel_rfl) (by kernel_rfl) ?_
                iterate 48
                  refine wpQ_take (v := ?_) (by rfl) (fun wS hS => ?_) ?_
                  rotate_left
                  · obtain ⟨L1, L2, L3, L4, L5, L6⟩ := Fr.same hS; go_simp; try with_reducible rfl
                  try simp only [List.getElem_toArray, List.getElem_cons_zero, List.getElem_cons_succ, Act.put, List.setIfInBounds_toArray, List.set_cons_zero, List.set_cons_succ]
                refine wpQ_call (by rfl) (fun wS hS => ⟨_, _, ?qh307, Calls.fr hS (D1 _ hS)⟩) ?qk307
                case qh307 => obtain ⟨L1, L2, L3, L4, L5, L6⟩ := Fr.same hS; go_simp; try with_reducible rfl
                try simp only [List.getElem_toArray, List.getElem_cons_zero, List.getElem_cons_succ, Act.put, List.setIfInBounds_toArray, List.set_cons_zero, List.set_cons_succ]
                iterate 2
                  refine wpQ_take (v := ?_) (by rfl) (fun wS hS => ?_) ?_
                  rotate_left
                  · obtain ⟨L1, L2, L3, L4, L5, L6⟩ := Fr.same hS; go_simp; try with_reducible rfl
                  try simp only [List.getElem_toArray, List.getElem_cons_zero, List.getElem_cons_succ, Act.put, List.setIfInBounds_toArray, List.set_cons_zero, List.set_cons_succ]
                refine wpQ_nil ?_
                intro w1 f1
                go_wp2_with fail
                go_roundg (ls1.length - (k + 1))
                case measure => omega
                case rel => exact ⟨k + 1, by simp, rfl, by omega, HE.out, hf.step0 f1⟩
              | false =>
                have HEE := Lib.hid (HM.out.trans (by simp) : alikeRP x y = false)
                clear h1 h2 h3
                have HE := Lib.hid (HNE.out HEE.out)
                clear HEE HNE HEQ HM
                refine wp_region_fr (by kernel_rfl) (by kernel_rfl) ?_
                iterate 48
                  refine wpQ_take (v := ?_) (by rfl) (fun wS hS => ?_) ?_
                  rotate_left
                  · obtain ⟨L1, L2, L3, L4, L5, L6⟩ := Fr.same hS; go_simp; try with_reducible rfl
                  try simp only [List.getElem_toArray, List.getElem_cons_zero, List.getElem_cons_succ, Act.put, List.setIfInBounds_toArray, List.set_cons_zero, List.set_cons_succ]
                refine wpQ_call (by rfl) (fun wS hS => ⟨_, _, ?qh332, Calls.fr hS (D1 _ hS)⟩) ?qk332
                case qh332 => obtain ⟨L1, L2, L3, L4, L5, L6⟩ := Fr.same hS; go_simp; try with_reducible rfl
                try simp only [List.getElem_toArray, List.getElem_cons_zero, List.getElem_cons_succ, Act.put, List.setIfInBounds_toArray, List.set_cons_zero, List.set_cons_succ]
                iterate 2
                  refine wpQ_take (v := ?_) (by rfl) (fun wS hS => ?_) ?_
                  rotate_left
                  · obtain ⟨L1, L2, L3, L4, L5, L6⟩ := Fr.same hS; go_simp; try with_reducible rfl
                  try simp only [List.getElem_toArray, List.getElem_cons_zero, List.getElem_cons_succ, Act.put, List.setIfInBounds_toArray, List.set_cons_zero, List.set_cons_succ]
                refine wpQ_nil ?_
                intro w1 f1
                go_wp2_with fail
                go_ret
                exact ⟨by rw [HE.out]; rfl, (F.step0 hf).step0 f1⟩
            · have HEE := Lib.hid (HM.out.trans (by simp [h3]) : alikeRP x y = false)
              have d3 : decide (r.Name = s.Name) = false := by simp [h3]
              clear h1 h2 h3
              have HE := Lib.hid (HNE.out HEE.out)
              clear HEE HNE HEQ HM
              refine wp_region_fr (by kernel_rfl) (by kernel_rfl) ?_
              iterate 38
                refine wpQ_take (v := ?_) (by rfl) (fun wS hS => ?_) ?_
                rotate_left
                · obtain ⟨L1, L2, L3, L4, L5, L6⟩ := Fr.same hS; go_simp; try with_reducible rfl
                try simp only [List.getElem_toArray, List.getElem_cons_zero, List.getElem_cons_succ, Act.put, List.setIfInBounds_toArray, List.set_cons_zero, List.set_cons_succ]
              iterate 12
                refine wpQ_off (by rfl) ?_
                try simp only [List.getElem_toArray, List.getElem_cons_zero, List.getElem_cons_succ, Act.put, List.setIfInBounds_toArray, List.set_cons_zero, List.set_cons_succ]
              refine wpQ_take (v := ?_) (by rfl) (fun wS hS => ?_) ?_
              rotate_left
              · obtain ⟨L1, L2, L3, L4, L5, L6⟩ := Fr.same hS; go_simp; try with_reducible rfl
              try simp only [List.getElem_toArray, List.getElem_cons_zero, List.getElem_cons_succ, Act.put, List.setIfInBounds_toArray, List.set_cons_zero, List.set_cons_succ]
              refine wpQ_nil ?_
              intro w1 f1
              go_wp2_with fail
              go_ret
              exact ⟨by rw [HE.out]; rfl, (F.step0 hf).step0 f1⟩
          · have HEE := Lib.hid (HM.out.trans (by simp [h2]) : alikeRP x y = false)
            have d2 : decide (r.Parent = s.Parent) = false := by simp [h2]
            clear h1 h2
            have HE := Lib.hid (HNE.out HEE.out)
            clear HEE HNE HEQ HM
            refine wp_region_fr (by kernel_rfl) (by kernel_rfl) ?_
            iterate 25
              refine wpQ_take (v := ?_) (by rfl) (fun wS hS => ?_) ?_
              rotate_left
              · obtain ⟨L1, L2, L3, L4, L5, L6⟩ := Fr.same hS; go_simp; try with_reducible rfl
              try simp only [List.getElem_toArray, List.getElem_cons_zero, List.getElem_cons_succ, Act.put, List.setIfInBounds_toArray, List.set_cons_zero, List.set_cons_succ]
            iterate 11
              refine wpQ_off (by rfl) ?_
              try simp only [List.getElem_toArray, List.getElem_cons_zero, List.getElem_cons_succ, Act.put, List.setIfInBounds_toArray, List.set_cons_zero, List.set_cons_succ]
            iterate 2
              refine wpQ_take (v := ?_) (by rfl) (fun wS hS => ?_) ?_
              rotate_left
              · obtain ⟨L1, L2, L3, L4, L5, L6⟩ := Fr.same hS; go_simp; try with_reducible rfl
              try simp only [List.getElem_toArray, List.getElem_cons_zero, List.getElem_cons_succ, Act.put, List.setIfInBounds_toArray, List.set_cons_zero, List.set_cons_succ]
            iterate 12
              refine wpQ_off (by rfl) ?_
              try simp only [List.getElem_toArray, List.getElem_cons_zero, List.getElem_cons_succ, Act.put, List.setIfInBounds_toArray, List.set_cons_zero, List.set_cons_succ]
            refine wpQ_take (v := ?_) (by rfl) (fun wS hS => ?_) ?_
            rotate_left
            · obtain ⟨L1, L2, L3, L4, L5, L6⟩ := Fr.same hS; go_simp; try with_reducible rfl
            try simp only [List.getElem_toArray, List.getElem_cons_zero, List.getElem_cons_succ, Act.put, List.setIfInBounds_toArray, List.set_cons_zero, List.set_cons_succ]
            refine wpQ_nil ?_
            intro w1 f1
            go_wp2_with fail
            go_ret
            exact ⟨by rw [HE.out]; rfl, (F.step0 hf).step0 f1⟩
        · have HEE := Lib.hid (HM.out.trans (by simp [h1]) : alikeRP x y = false)
          have d1 : decide (r.Node = s.Node) = false := by simp [h1]
          clear h1
          have HE := Lib.hid (HNE.out HEE.out)
          clear HEE HNE HEQ HM
          refine wp_region_fr (by kernel_rfl) (by kernel_rfl) ?_
          iterate 12
            refine wpQ_take (v := ?_) (by rfl) (fun wS hS => ?_) ?_
            rotate_left
            · obtain ⟨L1, L2, L3, L4, L5, L6⟩ := Fr.same hS; go_simp; try with_reducible rfl
            try simp only [List.getElem_toArray, List.getElem_cons_zero, List.getElem_cons_succ, Act.put, List.setIfInBounds_toArray, List.set_cons_zero, List.set_cons_succ]
          iterate 11
            refine wpQ_off (by rfl) ?_
            try simp only [List.getElem_toArray, List.getElem_cons_zero, List.getElem_cons_succ, Act.put, List.setIfInBounds_toArray, List.set_cons_zero, List.set_cons_succ]
          iterate 2
            refine wpQ_take (v := ?_) (by rfl) (fun wS hS => ?_) ?_
            rotate_left
            · obtain ⟨L1, L2, L3, L4, L5, L6⟩ := Fr.same hS; go_simp; try with_reducible rfl
            try simp only [List.getElem_toArray, List.getElem_cons_zero, List.getElem_cons_succ, Act.put, List.setIfInBounds_toArray, List.set_cons_zero, List.set_cons_succ]
          iterate 11
            refine wpQ_off (by rfl) ?_
            try simp only [List.getElem_toArray, List.getElem_cons_zero, List.getElem_cons_succ, Act.put, List.setIfInBounds_toArray, List.set_cons_zero, List.set_cons_succ]
          iterate 2
            refine wpQ_take (v := ?_) (by rfl) (fun wS hS => ?_) ?_
            rotate_left
            · obtain ⟨L1, L2, L3, L4, L5, L6⟩ := Fr.same hS; go_simp; try with_reducible rfl
            try simp only [List.getElem_toArray, List.getElem_cons_zero, List.getElem_cons_succ, Act.put, List.setIfInBounds_toArray, List.set_cons_zero, List.set_cons_succ]
          iterate 12
            refine wpQ_off (by rfl) ?_
            try simp only [List.getElem_toArray, List.getElem_cons_zero, List.getElem_cons_succ, Act.put, List.setIfInBounds_toArray, List.set_cons_zero, List.set_cons_succ]
          refine wpQ_take (v := ?_) (by rfl) (fun wS hS => ?_) ?_
          rotate_left
          · obtain ⟨L1, L2, L3, L4, L5, L6⟩ := Fr.same hS; go_simp; try with_reducible rfl
          try simp only [List.getElem_toArray, List.getElem_cons_zero, List.getElem_cons_succ, Act.put, List.setIfInBounds_toArray, List.set_cons_zero, List.set_cons_succ]
          refine wpQ_nil ?_
          intro w1 f1
          go_wp2_with fail
          go_ret
          exact ⟨by rw [HE.out]; rfl, (F.step0 hf).step0 f1⟩
      · have hkn : k = ls1.length := by omega
        subst hkn
        have i1 : ¬ (ls1.length : Int) < (ls1.length : Int) := by omega
        have HE := Lib.hid (allTwo_all alikeRP HLL.out (fun j h1 h2 h3 => HJ.out j h1 h2 (by rw [HL1.out]; exact h3)))
        go_wp2_with fail
        go_ret
        exact ⟨by rw [HE.out]; rfl, F.step0 hf⟩
  · have e1 : ((ls1.length : Int) != (ls2.length : Int)) = true := by rw [bne_iff_ne]; omega
    have HE := Lib.hid (allTwo_len alikeRP (a := us) (b := vs) (by rw [← HL1.out, ← HL2.out]; exact hl))
    go_wp2_with fail
    go_ret
    exact ⟨by rw [HE.out]; rfl, F⟩
end Go.Proofs.Ytefcalkbfaefgaa
