/- Contracts: differ.Alive, differ.Alike. (ex_ldS_at, Fr.sameR) Contracts: differ.Alike. -/
import Derived.Test.YtefcalkbfaefgaaGreatDifIK
namespace Go.Proofs.YtefcalkbfaefgaaGreat
open Go.RowKit Go.Sort
set_option linter.unusedVariables false
set_option linter.unusedSimpArgs false

theorem seR_Heads (r : RwW) (A : Option Addr) (n c : Nat) : (codR.cs r).set 7 (.slice A n c) = codR.cs { r with A := A, n := n, c := c } := rfl
/-- is a row alive? -/
def alvR (xs : List RwP) (x : RwP) : Bool := decide (placeR xs x.Node ≠ some trS)
theorem aliveR_f (xs : List RwP) : aliveR xs = xs.filter (alvR xs) := rfl
/-- rows whose heads lie in rows made since W -/
structure RwsO (W w : World) (rs : List RwW) (xs : List RwP) : Prop where
  len : rs.length = xs.length
  at_ : ∀ i (h : i < rs.length) (h' : i < xs.length), RwIn w rs[i] xs[i] ∧ w.ownsRow W.heap.size 93 34 (.slice (rs[i]).A (rs[i]).n (rs[i]).c) (rs[i]).n (codH.row (xs[i]).Heads)
theorem RwsO.rws {W w : World} {rs : List RwW} {xs : List RwP} (h : RwsO W w rs xs) : RwsIn w rs xs := ⟨h.len, fun i h1 h2 => (h.at_ i h1 h2).1⟩
theorem RwIn.of_ {w w' : World} {r : RwW} {x : RwP} (h : RwIn w r x) {base : Nat} (ho : w'.ownsRow base 93 34 (.slice r.A r.n r.c) r.n (codH.row x.Heads)) : RwIn w' r x := ⟨h.eq, h.len, Sl.own ho, h.bd, h.nm, h.wn, h.wp⟩
theorem RwsO.map {W w w' : World} {rs : List RwW} {xs : List RwP} (h : RwsO W w rs xs) (k : ∀ (v : Value) (n : Nat) (l : List Value), w.ownsRow W.heap.size 93 34 v n l → w'.ownsRow W.heap.size 93 34 v n l) : RwsO W w' rs xs :=
  ⟨h.len, fun i h1 h2 => by
    obtain ⟨a, b⟩ := h.at_ i h1 h2
    have b' := k _ _ _ b
    exact ⟨a.of_ b', b'⟩⟩
theorem RwsO.snoc {W w : World} {rs : List RwW} {xs : List RwP} (h : RwsO W w rs xs) {r : RwW} {x : RwP} (hi : RwIn w r x) (ho : w.ownsRow W.heap.size 93 34 (.slice r.A r.n r.c) r.n (codH.row x.Heads)) : RwsO W w (rs ++ [r]) (xs ++ [x]) :=
  ⟨by simp [h.len], fun i h1 h2 => by
    rcases Nat.lt_or_ge i rs.length with h3 | h3
    · have h4 : i < xs.length := by rw [← h.len]; exact h3
      rw [List.getElem_append_left h3, List.getElem_append_left h4]
      exact h.at_ i h3 h4
    · have h5 : i = rs.length := by simp at h1; omega
      have h6 : i = xs.length := by rw [← h.len]; exact h5
      have e1 : (rs ++ [r])[i] = r := by subst h5; simp
      have e2 : (xs ++ [x])[i] = x := by subst h6; simp
      rw [e1, e2]
      exact ⟨hi, ho⟩⟩
/-- new rows, each with a row of heads of its own -/
def AlR (w : World) (xs : List RwP) (gk : Nat) (ov iv : Value) (wr : World) : Prop :=
  ∃ (k : Nat) (A : Option Addr) (c : Nat) (ls : List RwW), iv = .int .i64 (k : Int) ∧ ov = .slice A ls.length c ∧ gk = xs.length - k ∧ k ≤ xs.length ∧ OwnC codR w wr A c ls ∧ RwsO w wr ls ((xs.take k).filter (alvR xs)) ∧ Fr noB w wr
/-- the answer: rows that lie in new memory -/
def AlTo (w : World) (xs : List RwP) (e : Ending) (w' : World) : Prop :=
  ∃ (A : Option Addr) (c : Nat) (ls : List RwW), e = .returned (.slice A ls.length c) ∧ Sl w' A (codR.row ls) ∧ RwsIn w' ls (aliveR xs) ∧ Fr noB w w'
set_option maxRecDepth 100000 in
set_option maxHeartbeats 4000000 in
theorem alive_d (w : World) (A : Option Addr) (c n : Nat) (rs : List RwW) (xs : List RwP) (hn : rs.length = n) (hs : Sl w A (codR.row rs)) (hb : rs.length ≤ 100000) (hX : RwsIn w rs xs) (hd : (xs.map (·.Node)).Nodup) (hbd : ∀ x ∈ xs, x.Heads.length ≤ 2932031007402) :
    Calls Tryz.prog 17 #[.slice A n c] w (AlTo w xs) := by
  subst hn
  have hXL := Lib.hid hX.len
  have HC := Lib.hid (of_any w A c rs.length rs rfl hs (by omega) (by rw [hX.nodes]; exact hd) (fun r hr => (hX.wf hr).1))
  go_enter Tryz.func17, Tryz.ntmps17
  go_upto_region 3 with (go_at_call 40; refine HC.out.mono ?_; rintro e wT ⟨t1, rfl, m1, hg1, f1⟩)
  clear HC hg1
  have F1 := f1
  clear f1
  go_wp2_with fail
  go_loopg [4, 13] xs.length (fun gk ov iv wr => AlR wT xs gk ov iv wr)
  case atStart => exact ⟨0, none, 0, [], rfl, rfl, by omega, by omega, World.ownsRow_nil _ _ _ _, ⟨rfl, fun i h => absurd h (by simp)⟩, Fr.refl _ _⟩
  case round =>
    obtain ⟨k, A4, c4, ls, rfl, rfl, hgk, hk, hown, hro, hf⟩ := hrel
    have hfw := F1.step0 hf
    have HGK := Lib.hid hgk
    have hllk : ls.length ≤ k := by
      rw [hro.len]
      exact length_filter_take _ _ _
    have HRO := Lib.hid hro
    clear hgk hro
    by_cases hlt2 : k < xs.length
    · have hlt : k < rs.length := by rw [hXL.out]; exact hlt2
      have i1 : (k : Int) < (rs.length : Int) := by omega
      have i0 : (0 : Int) ≤ (k : Int) := by omega
      have hSr := hs.fr0 hfw
      obtain ⟨g, off, rfl, hg⟩ := hSr.adC (by omega)
      have e1 : codR.rd wr g (off + k * 8) = some rs[k] := hSr.rd k hlt
      have hin : RwIn w rs[k] xs[k] := hX.at_ k hlt hlt2
      have hbx := hbd _ (List.getElem_mem hlt2)
      have hnx := filter_take_succ (alvR xs) xs k hlt2
      have hav : alvR xs xs[k] = decide (placeR xs xs[k].Node ≠ some trS) := rfl
      rw [hin.node] at hav
      generalize rs[k] = r at e1 hin hav
      generalize xs[k] = x at hin hbx hnx hav
      have hwf := hin.wn
      have fa : Fr noB wr (wr.alloc (codR.o r)) := (Fr.refl noB wr).alloc _
      have bx := Cod.bxd_new (C := codR) wr r
      have n1 := (rwAt (Cod.bxd_rd bx)).node
      have mx := mpT_fr0 (mpT_fr0 m1 hf) fa
      have HPL := Lib.hid (place_any (wr.alloc (codR.o r)) t1 rs xs mx ((hX.fr hfw).fr fa) (by omega) r.Node hwf)
      obtain ⟨o, ho⟩ : ∃ o, o = placeR xs r.Node := ⟨_, rfl⟩
      rw [← ho] at HPL hav
      have HIN := Lib.hid hin
      have HA4 := Lib.hid (show ∀ g, A4.map (·.block) = some g → g < wr.heap.size from fun g hg => (own_lt hown g hg).2)
      have HNX := Lib.hid hnx
      have HAV := Lib.hid hav
      clear ho hin hnx hav hSr
      go_upto_region 7 with (go_at_call 41; refine HPL.out.mono ?_; rintro e w5 ⟨rfl, f5⟩)
      have fz : Fr noB w5 (w5.alloc (codS.o (o.getD zSt))) := (Fr.refl noB w5).alloc _
      have nz := Cod.rd_new' (C := codS) w5 (o.getD zSt)
      have bx6 := Cod.bxd_fr0 (Cod.bxd_fr0 bx f5) fz
      have f6 := ((fa.step0 f5).step0 fz)
      have hown6 := own_new0 hown f6
      have HRO6 := Lib.hid (HRO.out.map fun v n l hv => own_new0 hv f6)
      have hf6 := hf.step0 f6
      have zs : w5.heap.size < (w5.alloc (codS.o (o.getD zSt))).heap.size := by simp
      clear HPL n1 mx bx fa f5 fz f6 hown HRO e1
      generalize w5.alloc (codS.o (o.getD zSt)) = W6 at nz bx6 hown6 HRO6 hf6 zs ⊢
      obtain ⟨N, hN⟩ : ∃ x, x = wr.heap.size := ⟨_, rfl⟩
      rw [← hN] at bx6 ⊢
      have HN := Lib.hid (show wT.heap.size ≤ N ∧ ∀ g, A4.map (·.block) = some g → g ≠ N from ⟨by have := hf.size; omega, fun g hg => by have := HA4.out g hg; omega⟩)
      clear hN
      cases o with
      | none =>
        have HALV := Lib.hid (show alvR xs x = true by rw [HAV.out]; simp)
        refine wp_region_fr (by kernel_rfl) (by kernel_rfl) ?_
        iterate 2
          refine wpQ_take (v := ?_) (by rfl) (fun wS hS => ?_) ?_
          rotate_left
          · obtain ⟨L1, L2, L3, L4, L5, L6⟩ := Fr.same hS; have L7 := Fr.sameR hS; go_simp; try with_reducible rfl
          try simp only [List.getElem_toArray, List.getElem_cons_zero, List.getElem_cons_succ, Act.put, List.setIfInBounds_toArray, List.set_cons_zero, List.set_cons_succ]
        iterate 3
          refine wpQ_off (by rfl) ?_
          try simp only [List.getElem_toArray, List.getElem_cons_zero, List.getElem_cons_succ, Act.put, List.setIfInBounds_toArray, List.set_cons_zero, List.set_cons_succ]
        refine wpQ_take (v := ?_) (by rfl) (fun wS hS => ?_) ?_
        rotate_left
        · obtain ⟨L1, L2, L3, L4, L5, L6⟩ := Fr.same hS; have L7 := Fr.sameR hS; go_simp; try with_reducible rfl
        try simp only [List.getElem_toArray, List.getElem_cons_zero, List.getElem_cons_succ, Act.put, List.setIfInBounds_toArray, List.set_cons_zero, List.set_cons_succ]
        refine wpQ_nil ?_
        intro w1 f1
        -- the row is taken, in world w7 (f1 : Fr noB W6 w1')
        have HNX2 := Lib.hid (HNX.out.trans (by rw [if_pos HALV.out]))
        have bx7 := Cod.bxd_fr0 bx6 f1
        have u7 := (rwAt (Cod.bxd_rd bx7)).heads
        have hf7 := hf6.step0 f1
        have hown7 := own_new0 hown6 f1
        have HRO7 := Lib.hid (HRO6.out.map fun v n l hv => own_new0 hv f1)
        clear bx6 nz hf6 hown6 HRO6 zs
        have hslh := HIN.out.sl.fr0 (F1.step0 hf7)
        have HHL := Lib.hid HIN.out.len
        go_upto_region 9 with (go_at_call 47; refine (clHeads_any _ r.A r.c x.Heads r.n HHL.out hslh hbx).mono ?_; rintro e w8 ⟨A8, c8, rfl, ho8, f8⟩; have hbx8 := Cod.bxd_fr0 bx7 f8; have u8 := (rwAt (Cod.bxd_rd hbx8)).heads; have z8 := (Cod.bxd_blk hbx8).frozen 7)
        have hb9 := Cod.bxd_set hbx8 7 (.slice A8 x.Heads.length c8) _ (seR_Heads _ _ _ _)
        have g9 := Cod.set_fr w8 N 7 (.slice A8 x.Heads.length c8)
        have ho9 := own_box (Cod.bxd_blk hbx8) ho8 (by decide) g9
        have hnN : ∀ g, (Value.slice A4 ls.length c4).ownBlock = some g → ¬ oneB N g := fun g hg e => by
          rw [ownBlock_sl'] at hg
          exact HN.out.2 g hg e
        have hown9 := own_fr (own_new0 hown7 f8) g9 hnN
        have HRO9 := Lib.hid ((HRO7.out.map fun v n l hv => own_new0 hv f8).map fun v n l hv => own_box (Cod.bxd_blk hbx8) hv (by decide) g9)
        have hf9 := (hf7.step0 f8).step1 g9 HN.out.1
        have ho9' := own_base ho9 hf7.size
        have n9 := Cod.bxd_rd hb9
        clear g9 hnN ho9 ho8 hown7 f8 hbx8 u8 z8 u7 bx7 hf7 HRO7 hslh
        generalize World.setCell _ _ _ = W9 at hb9 ho9' hown9 HRO9 hf9 n9 ⊢
        obtain ⟨r9, hr9⟩ : ∃ r9 : RwW, r9 = { r with A := A8, n := x.Heads.length, c := c8 } := ⟨_, rfl⟩
        rw [← hr9] at hb9 n9
        have hin9 : RwIn W9 r9 x := by
          rw [hr9]
          refine ⟨?_, rfl, Sl.own ho9', HIN.out.bd, HIN.out.nm, HIN.out.wn, HIN.out.wp⟩
          conv => lhs; rw [HIN.out.eq]
          rfl
        have how9 : W9.ownsRow wT.heap.size 93 34 (.slice r9.A r9.n r9.c) r9.n (codH.row x.Heads) := by rw [hr9]; exact ho9'
        have fr_ : Fr noB W9 (W9.alloc (codR.ro [r9])) := (Fr.refl noB W9).alloc _
        have sl := Cod.sl_new (C := codR) W9 [r9]
        have hown10 := own_new0 hown9 fr_
        have how10 := own_new0 how9 fr_
        have HRO10 := Lib.hid (HRO9.out.map fun v n l hv => own_new0 hv fr_)
        have hf10 := hf9.step0 fr_
        have HIN10 := Lib.hid (hin9.fr fr_)
        clear hr9 ho9' hin9 how9 fr_ hown9 HRO9 hf9 hb9
        go_wp2_with (at_builtin; refine wpList_appC' etR wT _ rfl _ _ rfl A4 ls.length c4 ls rfl rfl hown10 (some ⟨W9.heap.size, 0, none⟩) 1 1 [r9] rfl sl rfl (by simp; omega) hf10.size ?_; intro A7 c7 w7 hc7 hmx7 ho7 hg7 hA7; obtain ⟨ls', hls'⟩ : ∃ l : List RwW, l = ls ++ [r9] := ⟨_, rfl⟩; rw [← hls'] at ho7 ⊢; have HLE := Lib.hid hls'; clear hls' hmx7 hc7)
        have fg := Fr.ofGrown (M := fun b => A4.map (·.block) = some b) hg7 (fun g hg => hg)
        have how11 := own_two hown10 how10 (by decide) fg
        have hro11 := (HRO10.out.map fun v n l hv => own_two hown10 hv (by decide) fg).snoc (HIN10.out.of_ how11) how11
        have hf11 := Fr.own' hf10 hown10 hg7
        rw [← HLE.out, ← HNX2.out] at hro11
        go_roundg (xs.length - (k + 1))
        case measure => have := HGK.out; omega
        case rel => exact ⟨k + 1, A7, c7, ls', by simp, rfl, rfl, by omega, ho7, hro11, hf11⟩
      | some p =>
        have C1 := fun wS : World => trash_any wS
        by_cases hp : p = trS
        · have HALV := Lib.hid (show alvR xs x = false by rw [HAV.out, hp]; simp)
          have HNX2 := Lib.hid (HNX.out.trans (by rw [if_neg (by rw [HALV.out]; decide), List.append_nil]))
          have d1 : decide (p = trS) = true := by simp [hp]
          have hg : (some p).getD zSt = p := rfl
          rw [hg] at nz
          clear hp
          refine wp_region_fr (by kernel_rfl) (by kernel_rfl) ?_
          iterate 3
            refine wpQ_take (v := ?_) (by rfl) (fun wS hS => ?_) ?_
            rotate_left
            · obtain ⟨L1, L2, L3, L4, L5, L6⟩ := Fr.same hS; have L7 := Fr.sameR hS; go_simp; try with_reducible rfl
            try simp only [List.getElem_toArray, List.getElem_cons_zero, List.getElem_cons_succ, Act.put, List.setIfInBounds_toArray, List.set_cons_zero, List.set_cons_succ]
          refine wpQ_call (by rfl) (fun wS hS => ⟨_, _, ?qh188, Calls.fr hS (C1 _)⟩) ?qk188
          case qh188 => obtain ⟨L1, L2, L3, L4, L5, L6⟩ := Fr.same hS; go_simp; try with_reducible rfl
          try simp only [List.getElem_toArray, List.getElem_cons_zero, List.getElem_cons_succ, Act.put, List.setIfInBounds_toArray, List.set_cons_zero, List.set_cons_succ]
          iterate 2
            refine wpQ_take (v := ?_) (by rfl) (fun wS hS => ?_) ?_
            rotate_left
            · obtain ⟨L1, L2, L3, L4, L5, L6⟩ := Fr.same hS; have L7 := Fr.sameR hS; go_simp; try with_reducible rfl
            try simp only [List.getElem_toArray, List.getElem_cons_zero, List.getElem_cons_succ, Act.put, List.setIfInBounds_toArray, List.set_cons_zero, List.set_cons_succ]
          refine wpQ_nil ?_
          intro w1 f1
          go_wp2_with fail
          go_roundg (xs.length - (k + 1))
          case measure => have := HGK.out; omega
          case rel => exact ⟨k + 1, A4, c4, ls, by simp, rfl, rfl, by omega, own_new0 hown6 f1, by rw [HNX2.out]; exact HRO6.out.map fun v n l hv => own_new0 hv f1, hf6.step0 f1⟩
        · have HALV := Lib.hid (show alvR xs x = true by rw [HAV.out]; simp [hp])
          have d1 : decide (p = trS) = false := by simp [hp]
          have hg : (some p).getD zSt = p := rfl
          rw [hg] at nz
          clear hp
          refine wp_region_fr (by kernel_rfl) (by kernel_rfl) ?_
          iterate 3
            refine wpQ_take (v := ?_) (by rfl) (fun wS hS => ?_) ?_
            rotate_left
            · obtain ⟨L1, L2, L3, L4, L5, L6⟩ := Fr.same hS; have L7 := Fr.sameR hS; go_simp; try with_reducible rfl
            try simp only [List.getElem_toArray, List.getElem_cons_zero, List.getElem_cons_succ, Act.put, List.setIfInBounds_toArray, List.set_cons_zero, List.set_cons_succ]
          refine wpQ_call (by rfl) (fun wS hS => ⟨_, _, ?qh213, Calls.fr hS (C1 _)⟩) ?qk213
          case qh213 => obtain ⟨L1, L2, L3, L4, L5, L6⟩ := Fr.same hS; go_simp; try with_reducible rfl
          try simp only [List.getElem_toArray, List.getElem_cons_zero, List.getElem_cons_succ, Act.put, List.setIfInBounds_toArray, List.set_cons_zero, List.set_cons_succ]
          iterate 2
            refine wpQ_take (v := ?_) (by rfl) (fun wS hS => ?_) ?_
            rotate_left
            · obtain ⟨L1, L2, L3, L4, L5, L6⟩ := Fr.same hS; have L7 := Fr.sameR hS; go_simp; try with_reducible rfl
            try simp only [List.getElem_toArray, List.getElem_cons_zero, List.getElem_cons_succ, Act.put, List.setIfInBounds_toArray, List.set_cons_zero, List.set_cons_succ]
          refine wpQ_nil ?_
          intro w1 f1
          -- the row is taken, in world w7 (f1 : Fr noB W6 w1')
          have HNX2 := Lib.hid (HNX.out.trans (by rw [if_pos HALV.out]))
          have bx7 := Cod.bxd_fr0 bx6 f1
          have u7 := (rwAt (Cod.bxd_rd bx7)).heads
          have hf7 := hf6.step0 f1
          have hown7 := own_new0 hown6 f1
          have HRO7 := Lib.hid (HRO6.out.map fun v n l hv => own_new0 hv f1)
          clear bx6 nz hf6 hown6 HRO6 zs
          have hslh := HIN.out.sl.fr0 (F1.step0 hf7)
          have HHL := Lib.hid HIN.out.len
          go_upto_region 9 with (go_at_call 47; refine (clHeads_any _ r.A r.c x.Heads r.n HHL.out hslh hbx).mono ?_; rintro e w8 ⟨A8, c8, rfl, ho8, f8⟩; have hbx8 := Cod.bxd_fr0 bx7 f8; have u8 := (rwAt (Cod.bxd_rd hbx8)).heads; have z8 := (Cod.bxd_blk hbx8).frozen 7)
          have hb9 := Cod.bxd_set hbx8 7 (.slice A8 x.Heads.length c8) _ (seR_Heads _ _ _ _)
          have g9 := Cod.set_fr w8 N 7 (.slice A8 x.Heads.length c8)
          have ho9 := own_box (Cod.bxd_blk hbx8) ho8 (by decide) g9
          have hnN : ∀ g, (Value.slice A4 ls.length c4).ownBlock = some g → ¬ oneB N g := fun g hg e => by
            rw [ownBlock_sl'] at hg
            exact HN.out.2 g hg e
          have hown9 := own_fr (own_new0 hown7 f8) g9 hnN
          have HRO9 := Lib.hid ((HRO7.out.map fun v n l hv => own_new0 hv f8).map fun v n l hv => own_box (Cod.bxd_blk hbx8) hv (by decide) g9)
          have hf9 := (hf7.step0 f8).step1 g9 HN.out.1
          have ho9' := own_base ho9 hf7.size
          have n9 := Cod.bxd_rd hb9
          clear g9 hnN ho9 ho8 hown7 f8 hbx8 u8 z8 u7 bx7 hf7 HRO7 hslh
          generalize World.setCell _ _ _ = W9 at hb9 ho9' hown9 HRO9 hf9 n9 ⊢
          obtain ⟨r9, hr9⟩ : ∃ r9 : RwW, r9 = { r with A := A8, n := x.Heads.length, c := c8 } := ⟨_, rfl⟩
          rw [← hr9] at hb9 n9
          have hin9 : RwIn W9 r9 x := by
            rw [hr9]
            refine ⟨?_, rfl, Sl.own ho9', HIN.out.bd, HIN.out.nm, HIN.out.wn, HIN.out.wp⟩
            conv => lhs; rw [HIN.out.eq]
            rfl
          have how9 : W9.ownsRow wT.heap.size 93 34 (.slice r9.A r9.n r9.c) r9.n (codH.row x.Heads) := by rw [hr9]; exact ho9'
          have fr_ : Fr noB W9 (W9.alloc (codR.ro [r9])) := (Fr.refl noB W9).alloc _
          have sl := Cod.sl_new (C := codR) W9 [r9]
          have hown10 := own_new0 hown9 fr_
          have how10 := own_new0 how9 fr_
          have HRO10 := Lib.hid (HRO9.out.map fun v n l hv => own_new0 hv fr_)
          have hf10 := hf9.step0 fr_
          have HIN10 := Lib.hid (hin9.fr fr_)
          clear hr9 ho9' hin9 how9 fr_ hown9 HRO9 hf9 hb9
          go_wp2_with (at_builtin; refine wpList_appC' etR wT _ rfl _ _ rfl A4 ls.length c4 ls rfl rfl hown10 (some ⟨W9.heap.size, 0, none⟩) 1 1 [r9] rfl sl rfl (by simp; omega) hf10.size ?_; intro A7 c7 w7 hc7 hmx7 ho7 hg7 hA7; obtain ⟨ls', hls'⟩ : ∃ l : List RwW, l = ls ++ [r9] := ⟨_, rfl⟩; rw [← hls'] at ho7 ⊢; have HLE := Lib.hid hls'; clear hls' hmx7 hc7)
          have fg := Fr.ofGrown (M := fun b => A4.map (·.block) = some b) hg7 (fun g hg => hg)
          have how11 := own_two hown10 how10 (by decide) fg
          have hro11 := (HRO10.out.map fun v n l hv => own_two hown10 hv (by decide) fg).snoc (HIN10.out.of_ how11) how11
          have hf11 := Fr.own' hf10 hown10 hg7
          rw [← HLE.out, ← HNX2.out] at hro11
          go_roundg (xs.length - (k + 1))
          case measure => have := HGK.out; omega
          case rel => exact ⟨k + 1, A7, c7, ls', by simp, rfl, rfl, by omega, ho7, hro11, hf11⟩
    · have hkn : k = xs.length := by omega
      subst hkn
      have i1 : ¬ (xs.length : Int) < (rs.length : Int) := by have := hXL.out; omega
      go_wp2_with fail
      go_ret
      have h := HRO.out.rws
      rw [List.take_length] at h
      exact ⟨A4, c4, ls, rfl, Sl.own hown, h, hfw⟩
end Go.Proofs.YtefcalkbfaefgaaGreat
namespace Go.Proofs.YtefcalkbfaefgaaGreat
open Go.RowKit Go.Sort
set_option linter.unusedVariables false
set_option linter.unusedSimpArgs false

set_option maxRecDepth 100000 in
set_option maxHeartbeats 1000000 in
theorem alike1_any (w : World) (r s : RwW) (x y : RwP) (hx : RwIn w r x) (hy : RwIn w s y) : Calls Tryz.prog 28 #[.agg (codR.A r), .agg (codR.A s)] w (Gives w (.bool (alikeRP x y))) := by
  have fa : Fr noB w ((w.alloc (.cells (codR.A r) 36)).alloc (.cells (codR.A s) 36)) := ((Fr.refl noB w).alloc _).alloc _
  have n1 := rwAt (Cod.rd_fr0 (Cod.rd_new (C := codR) w 36 r) ((Fr.refl noB _).alloc (.cells (codR.A s) 36)))
  have n2 := rwAt (Cod.rd_new (C := codR) (w.alloc (.cells (codR.A r) 36)) 36 s)
  have hz : (w.alloc (.cells (codR.A r) 36)).heap.size = w.heap.size + 1 := by simp
  rw [hz] at n2
  obtain ⟨u1, u2, u3, u4, u5, u6⟩ := n1
  obtain ⟨v1, v2, v3, v4, v5, v6⟩ := n2
  have HD := Lib.hid (sameData_any _ r s x.Heads y.Heads hx.len hy.len (hx.sl.fr0 fa) (hy.sl.fr0 fa) hx.bd hy.bd)
  have hM : alikeRP x y = (decide (r.Node = s.Node) && decide (r.Parent = s.Parent) && decide (r.Name = s.Name) && sameDt x.Heads y.Heads) := by
    unfold alikeRP
    rw [hx.node, hy.node, hx.parent, hy.parent, hx.name, hy.name]
  have HM := Lib.hid hM
  clear hz hM u3 u5 v3 v5 hx hy
  generalize sameDt x.Heads y.Heads = sd at HD HM
  by_cases h1 : r.Node = s.Node
  · by_cases h2 : r.Parent = s.Parent
    · by_cases h3 : r.Name = s.Name
      · have HE := Lib.hid (HM.out.trans (by simp [h1, h2, h3]) : alikeRP x y = sd)
        have d1 : decide (r.Node = s.Node) = true := by simp [h1]
        have d2 : decide (r.Parent = s.Parent) = true := by simp [h2]
        have d3 : decide (r.Name = s.Name) = true := by simp [h3]
        clear h1 h2 h3 HM
        go_enter Tryz.func28, Tryz.ntmps28
        go_wp2_with (go_at_call 29; refine HD.out.mono ?_; rintro e w5 ⟨rfl, f5⟩)
        go_ret
        exact ⟨by rw [HE.out]; rfl, fa.step0 f5⟩
      · have HE := Lib.hid (HM.out.trans (by simp [h3]) : alikeRP x y = false)
        have d1 : decide (r.Node = s.Node) = true := by simp [h1]
        have d2 : decide (r.Parent = s.Parent) = true := by simp [h2]
        have d3 : decide (r.Name = s.Name) = false := by simp [h3]
        clear h1 h2 h3 HM
        go_enter Tryz.func28, Tryz.ntmps28
        go_wp2_with fail
        go_ret
        exact ⟨by rw [HE.out]; rfl, fa⟩
    · have HE := Lib.hid (HM.out.trans (by simp [h2]) : alikeRP x y = false)
      have d1 : decide (r.Node = s.Node) = true := by simp [h1]
      have d2 : decide (r.Parent = s.Parent) = false := by simp [h2]
      clear h1 h2 HM
      go_enter Tryz.func28, Tryz.ntmps28
      go_wp2_with fail
      go_ret
      exact ⟨by rw [HE.out]; rfl, fa⟩
  · have HE := Lib.hid (HM.out.trans (by simp [h1]) : alikeRP x y = false)
    have d1 : decide (r.Node = s.Node) = false := by simp [h1]
    clear h1 HM
    go_enter Tryz.func28, Tryz.ntmps28
    go_wp2_with fail
    go_ret
    exact ⟨by rw [HE.out]; rfl, fa⟩
def EqrR (w : World) (xs ys : List RwP) (gk : Nat) (iv : Value) (wr : World) : Prop := ∃ k : Nat, iv = .int .i64 (k : Int) ∧ gk = xs.length - k ∧ k ≤ xs.length ∧ (∀ j (h1 : j < xs.length) (h2 : j < ys.length), j < k → alikeRP xs[j] ys[j] = true) ∧ Fr noB w wr
theorem allTwo_len {α β : Type} (f : α → β → Bool) : ∀ {a : List α} {b : List β}, a.length ≠ b.length → allTwo f a b = false
  | [], [], h => absurd rfl h
  | [], _ :: _, h => rfl
  | _ :: _, [], h => rfl
  | x :: a, y :: b, h => by
    show (f x y && allTwo f a b) = false
    rw [allTwo_len f (a := a) (b := b) (by simpa using h), Bool.and_false]
theorem allTwo_ne {α β : Type} (f : α → β → Bool) : ∀ {a : List α} {b : List β} {i : Nat} (h1 : i < a.length) (h2 : i < b.length), f a[i] b[i] = false → allTwo f a b = false
  | x :: a, y :: b, 0, h1, h2, h => by
    show (f x y && allTwo f a b) = false
    rw [show f x y = false from h, Bool.false_and]
  | x :: a, y :: b, i + 1, h1, h2, h => by
    show (f x y && allTwo f a b) = false
    rw [allTwo_ne f (a := a) (b := b) (i := i) (by simpa using h1) (by simpa using h2) h, Bool.and_false]
  | [], _, _, h1, _, _ => absurd h1 (by simp)
  | _ :: _, [], _, _, h2, _ => absurd h2 (by simp)
theorem allTwo_all {α β : Type} (f : α → β → Bool) : ∀ {a : List α} {b : List β}, a.length = b.length → (∀ j (h1 : j < a.length) (h2 : j < b.length), j < a.length → f a[j] b[j] = true) → allTwo f a b = true
  | [], [], _, _ => rfl
  | x :: a, y :: b, hl, h => by
    show (f x y && allTwo f a b) = true
    rw [show f x y = true from h 0 (by simp) (by simp) (by simp), Bool.true_and]
    exact allTwo_all f (by simpa using hl) fun j h1 h2 h3 => h (j + 1) (by simpa using h1) (by simpa using h2) (by simpa using h3)
  | [], _ :: _, hl, _ => by simp at hl
  | _ :: _, [], hl, _ => by simp at hl
set_option maxRecDepth 100000 in
set_option maxHeartbeats 1000000 in
theorem eqfR_any (w : World) (A B : Option Addr) (c d n m : Nat) (rs ss : List RwW) (xs ys : List RwP) (hn : rs.length = n) (hm : ss.length = m) (hA : Sl w A (codR.row rs)) (hB : Sl w B (codR.row ss)) (hX : RwsIn w rs xs) (hY : RwsIn w ss ys) (hb : rs.length ≤ 140737488355328) (hb2 : ss.length ≤ 140737488355328) :
    Calls Tryz.prog 27 #[.slice A n c, .slice B m d, .func (.func 28) #[] #[]] w (Gives w (.bool (allTwo alikeRP xs ys))) := by
  subst hn hm
  have hxl := hX.len
  have hyl := hY.len
  by_cases hl : rs.length = ss.length
  · have HL := Lib.hid hl
    have HXL := Lib.hid (And.intro hxl hyl)
    rw [← hl]
    clear hl hxl hyl
    go_enter Tryz.func27, Tryz.ntmps27
    go_wp2_with fail
    go_loopg [17] xs.length (fun gk iv wr => EqrR w xs ys gk iv wr)
    case atStart => exact ⟨0, rfl, by omega, by omega, fun j h1 h2 h3 => by omega, Fr.refl _ _⟩
    case round =>
      obtain ⟨k, rfl, hgk, hk, hj, hf⟩ := hrel
      have HJ := Lib.hid hj
      have HGK := Lib.hid hgk
      clear hj hgk
      by_cases hlt1 : k < xs.length
      · have hlt : k < rs.length := by have := HXL.out.1; omega
        have hlt2 : k < ss.length := by rw [← HL.out]; exact hlt
        have hlt3 : k < ys.length := by have := HXL.out.2; omega
        have i1 : (k : Int) < (rs.length : Int) := by omega
        have i0 : (0 : Int) ≤ (k : Int) := by omega
        obtain ⟨g, off, rfl, hg⟩ := hA.adC (by omega)
        obtain ⟨g2, off2, rfl, hg2⟩ := hB.adC (by omega)
        have e1 : codR.rd wr g (off + k * 8) = some rs[k] := (hA.fr0 hf).rd k hlt
        have fx : Fr noB wr (wr.alloc (codR.o rs[k])) := (Fr.refl noB wr).alloc _
        have e2 : codR.rd (wr.alloc (codR.o rs[k])) g2 (off2 + k * 8) = some ss[k] := ((hB.fr0 hf).fr0 fx).rd k hlt2
        have fy : Fr noB (wr.alloc (codR.o rs[k])) ((wr.alloc (codR.o rs[k])).alloc (codR.o ss[k])) := (Fr.refl noB _).alloc _
        have n1 := Cod.rd_fr0 (Cod.rd_new' (C := codR) wr rs[k]) fy
        have n2 := Cod.rd_new' (C := codR) (wr.alloc (codR.o rs[k])) ss[k]
        have hz : (wr.alloc (codR.o rs[k])).heap.size = wr.heap.size + 1 := by simp
        rw [hz] at n2
        have fxy := (hf.step0 fx).step0 fy
        have HC := Lib.hid (alike1_any _ rs[k] ss[k] xs[k] ys[k] ((hX.at_ k hlt hlt1).fr fxy) ((hY.at_ k hlt2 hlt3).fr fxy))
        have HNE := Lib.hid (fun h : alikeRP xs[k] ys[k] = false => allTwo_ne alikeRP hlt1 hlt3 h)
        have HEQ := Lib.hid (fun (h : alikeRP xs[k] ys[k] = true) => (show ∀ j (h1 : j < xs.length) (h2 : j < ys.length), j < k + 1 → alikeRP xs[j] ys[j] = true from fun j h1 h2 h3 => by
          by_cases e : j = k
          · subst e; exact h
          · exact HJ.out j h1 h2 (by omega)))
        clear hz
        generalize rs[k] = r at e1 e2 fx fy n1 n2 HC fxy
        generalize ss[k] = s at e2 fy n1 n2 HC fxy
        generalize alikeRP xs[k] ys[k] = bb at HC HNE HEQ
        cases bb with
        | true =>
          have HE := Lib.hid (HEQ.out rfl)
          clear HNE HEQ
          go_wp2_with (go_at_call 28; refine HC.out.mono ?_; rintro e w5 ⟨rfl, f5⟩)
          go_roundg (xs.length - (k + 1))
          case measure => have := HGK.out; omega
          case rel => exact ⟨k + 1, by simp, rfl, by omega, HE.out, fxy.step0 f5⟩
        | false =>
          have HE := Lib.hid (HNE.out rfl)
          clear HNE HEQ
          go_wp2_with (go_at_call 28; refine HC.out.mono ?_; rintro e w5 ⟨rfl, f5⟩)
          go_ret
          exact ⟨by rw [HE.out]; rfl, fxy.step0 f5⟩
      · have hkn : k = xs.length := by omega
        subst hkn
        have i1 : ¬ (xs.length : Int) < (rs.length : Int) := by have := HXL.out.1; omega
        have HE := Lib.hid (allTwo_all alikeRP (show xs.length = ys.length by have := HXL.out; have := HL.out; omega) HJ.out)
        go_wp2_with fail
        go_ret
        exact ⟨by rw [HE.out]; rfl, hf⟩
  · have HE := Lib.hid (allTwo_len alikeRP (a := xs) (b := ys) (by omega))
    have hl' : ¬ (rs.length : Int) = (ss.length : Int) := by omega
    clear hxl hyl
    go_enter Tryz.func27, Tryz.ntmps27
    go_wp2_with fail
    go_ret
    exact ⟨by rw [HE.out]; rfl, Fr.refl _ _⟩
theorem aliveR_len (xs : List RwP) : (aliveR xs).length ≤ xs.length := List.length_filter_le _ _
set_option maxRecDepth 100000 in
set_option maxHeartbeats 1000000 in
theorem alike_any (w : World) (A B : Option Addr) (c d n m : Nat) (rs ss : List RwW) (xs ys : List RwP) (hn : rs.length = n) (hm : ss.length = m) (hA : Sl w A (codR.row rs)) (hB : Sl w B (codR.row ss)) (hX : RwsIn w rs xs) (hY : RwsIn w ss ys) (hb : rs.length ≤ 100000) (hb2 : ss.length ≤ 100000) (hd1 : (xs.map (·.Node)).Nodup) (hd2 : (ys.map (·.Node)).Nodup) (hbx : ∀ x ∈ xs, x.Heads.length ≤ 2932031007402) (hby : ∀ x ∈ ys, x.Heads.length ≤ 2932031007402) :
    Calls Tryz.prog 10 #[.slice A n c, .slice B m d] w (Gives w (.bool (alikeR xs ys))) := by
  subst hn hm
  have HA := Lib.hid (alive_d w A c rs.length rs xs rfl hA hb hX hd1 hbx)
  have HB := Lib.hid (fun w' (f : Fr noB w w') => alive_d w' B d ss.length ss ys rfl (hB.fr0 f) hb2 (hY.fr f) hd2 hby)
  have l1 := aliveR_len xs
  have l2 := aliveR_len ys
  rw [← hX.len] at l1
  rw [← hY.len] at l2
  have HLL := Lib.hid (And.intro l1 l2)
  have tok : True := trivial
  have HAL := Lib.hid (show alikeR xs ys = allTwo alikeRP (aliveR xs) (aliveR ys) from rfl)
  clear l1 l2
  go_enter Tryz.func10, Tryz.ntmps10
  go_wp2_with (first
    | (go_at_call 17; have _t := tok; refine HA.out.mono ?_; rintro e w1 ⟨A1, c1, l1, rfl, s1, x1, f1⟩; clear tok _t)
    | (go_at_call 17; refine (HB.out w1 f1).mono ?_; rintro e w2 ⟨A2, c2, l2, rfl, s2, x2, f2⟩)
    | (go_at_call 27; refine (eqfR_any w2 A1 A2 c1 c2 l1.length l2.length l1 l2 (aliveR xs) (aliveR ys) rfl rfl (s1.fr0 f2) s2 (x1.fr f2) x2 (by have := x1.len; have := HLL.out; omega) (by have := x2.len; have := HLL.out; omega)).mono ?_; rintro e w3 ⟨rfl, f3⟩))
  go_ret
  exact ⟨by rw [HAL.out]; rfl, (f1.step0 f2).step0 f3⟩
end Go.Proofs.YtefcalkbfaefgaaGreat
