/- Contracts: differ.trash, snap.last, snap.fixed; tables: of, depth, place; sameData. (ex_ldS_at) -/
import Derived.Test.YtefcalkbfaefgaaGreatTreeSK
import Derived.Test.YtefcalkbfaefgaaGreatPathPK
import Derived.Test.YtefcalkbfaefgaaGreatRdCK
import Derived.Test.YtefcalkbfaefgaaGreatDiffPK
import Derived.Deep.LoopGhost
namespace Go.Proofs.YtefcalkbfaefgaaGreat
open Go.RowKit
set_option linter.unusedVariables false
set_option linter.unusedSimpArgs false

theorem Cod.bxd_box {α : Type} {C : Cod α} (w : World) (x : α) : C.bxd (w.alloc (.cells (C.A x) C.t)) w.heap.size = some x := by
  have h := Cod.bxd_new (C := C) w x
  rwa [show C.o x = .cells (C.A x) C.t from by unfold Cod.o; rfl] at h
theorem bxS_box (w : World) (x : St) : codS.bxd (w.alloc (.cells (codS.A x) 30)) w.heap.size = some x := Cod.bxd_box w x
@[simp] theorem fldR_1 (w : World) (r : RwW) : (Instr.field 36 (.agg (codR.A r)) 1).run Tryz.prog w = .ok (.agg (codS.A r.Parent)) w := by
  rw [Cod.A_eq, Cod.A_eq]
  kernel_rfl
@[simp] theorem fldR_3 (w : World) (r : RwW) : (Instr.field 36 (.agg (codR.A r)) 3).run Tryz.prog w = .ok (.string (str r.Name)) w := by
  rw [Cod.A_eq]
  kernel_rfl
theorem bldS_1 (w : World) (b : Int) : (Instr.build 30 #[(1, .int .i64 b)]).run Tryz.prog w = .ok (.agg (codS.A ⟨0, b⟩)) w := by
  rw [Cod.A_eq]
  kernel_rfl
theorem bldS_2 (w : World) (a b : Int) : (Instr.build 30 #[(0, .int .i64 a), (1, .int .i64 b)]).run Tryz.prog w = .ok (.agg (codS.A ⟨a, b⟩)) w := by
  rw [Cod.A_eq]
  kernel_rfl
@[simp] theorem bldS_tr (w : World) : (Instr.build 30 #[(1, .int .i64 1)]).run Tryz.prog w = .ok (.agg (codS.A trS)) w := bldS_1 w 1
@[simp] theorem bldS_la (w : World) : (Instr.build 30 #[(0, .int .i64 1099511627776), (1, .int .i64 65536)]).run Tryz.prog w = .ok (.agg (codS.A lastS)) w := bldS_2 w _ _
set_option maxRecDepth 100000 in
theorem trash_any (w : World) : Calls Tryz.prog 46 #[] w (Gives w (.agg (codS.A trS))) := by
  go_enter Tryz.func46, Tryz.ntmps46
  go_wp2_with fail
  refine bodyPost_ret (ret_row okS rfl _ _ w.heap.size trS (by rfl) (Cod.bxd_new w _)) rfl ?_
  exact ⟨rfl, (Fr.refl noB w).alloc _⟩
set_option maxRecDepth 100000 in
theorem last_any (w : World) : Calls Tryz.prog 87 #[] w (Gives w (.agg (codS.A lastS))) := by
  go_enter Tryz.func87, Tryz.ntmps87
  go_wp2_with fail
  refine bodyPost_ret (ret_row okS rfl _ _ w.heap.size lastS (by rfl) (Cod.bxd_new w _)) rfl ?_
  exact ⟨rfl, (Fr.refl noB w).alloc _⟩
theorem stCell {w : World} {b : Nat} {s : St} (h : codS.rd w b 0 = some s) : w.cell? ⟨b, 0, none⟩ = some (.int .i64 s.T) ∧ w.cell? ⟨b, 1, none⟩ = some (.int .i64 s.R) :=
  ⟨by simpa using Cod.rd_cell h 0 (v := .int .i64 s.T) rfl, by simpa using Cod.rd_cell h 1 (v := .int .i64 s.R) rfl⟩
set_option maxRecDepth 100000 in
theorem nfixed_any (w : World) (s : St) : Calls Tryz.prog 54 #[.agg (codS.A s)] w (Gives w (.bool (fixedS s))) := by
  have f0 : Fr noB w (w.alloc (.cells (codS.A s) 30)) := (Fr.refl noB w).alloc _
  obtain ⟨q1, q2⟩ := stCell (Cod.bxd_rd (bxS_box w s))
  obtain ⟨T, R⟩ := s
  simp only at q1 q2
  by_cases h1 : T = 0
  · subst h1
    by_cases h2 : R = 0
    · subst h2
      have e : fixedS ⟨0, 0⟩ = true := rfl
      have E := Lib.hid e
      clear e
      go_enter Tryz.func54, Tryz.ntmps54
      go_wp2_with fail
      go_ret
      exact ⟨by rw [E.out]; rfl, f0⟩
    · by_cases h3 : R = 1
      · subst h3
        have e : fixedS ⟨0, 1⟩ = true := rfl
        have E := Lib.hid e
        clear e
        go_enter Tryz.func54, Tryz.ntmps54
        go_wp2_with fail
        go_ret
        exact ⟨by rw [E.out]; rfl, f0⟩
      · have e : fixedS ⟨0, R⟩ = false := by simp [fixedS, h2, h3]
        have h2' : (R == 0) = false := by simpa using h2
        have h3' : (R == 1) = false := by simpa using h3
        have E := Lib.hid e
        clear e
        go_enter Tryz.func54, Tryz.ntmps54
        go_wp2_with fail
        go_ret
        exact ⟨by rw [E.out]; rfl, f0⟩
  · have e : fixedS ⟨T, R⟩ = false := by simp [fixedS, h1]
    have h1' : (T == 0) = false := by simpa using h1
    have E := Lib.hid e
    clear e
    go_enter Tryz.func54, Tryz.ntmps54
    go_wp2_with fail
    go_ret
    exact ⟨by rw [E.out]; rfl, f0⟩
/-! tables -/
def TabTo (w : World) (rs : List RwW) (e : Ending) (w' : World) : Prop := ∃ t, e = .returned (.map (some t)) ∧ mpT w' t = some (tab rs) ∧ w.heap.size ≤ t ∧ Fr noB w w'
def OfR (w : World) (rs : List RwW) (t : Nat) (gk : Nat) (iv : Value) (wr : World) : Prop := ∃ k : Nat, iv = .int .i64 (k : Int) ∧ gk = rs.length - k ∧ k ≤ rs.length ∧ mpT wr t = some (tab (rs.take k)) ∧ Fr noB w wr
theorem nd_take {rs : List RwW} (hn : (rs.map (·.Node)).Nodup) {k : Nat} (hk : k < rs.length) : ∀ x ∈ rs.take k, x.Node ≠ rs[k].Node := by
  intro x hx e
  obtain ⟨i, hi, rfl⟩ := List.getElem_of_mem hx
  rw [List.length_take] at hi
  rw [List.getElem_take] at e
  have hi' : i < k := by omega
  have := (List.pairwise_iff_getElem.1 hn) i k (by simp; omega) (by simp; omega) hi'
  simp only [List.getElem_map] at this
  exact this e
set_option maxRecDepth 100000 in
set_option maxHeartbeats 1000000 in
theorem of_any (w : World) (A : Option Addr) (c n : Nat) (rs : List RwW) (hn : rs.length = n) (hs : Sl w A (codR.row rs)) (hb : rs.length ≤ 140737488355328) (hd : (rs.map (·.Node)).Nodup) (hw : ∀ r ∈ rs, wfS r.Node = true) :
    Calls Tryz.prog 40 #[.slice A n c] w (TabTo w rs) := by
  subst hn
  have f0 : Fr noB w (w.alloc (.map #[] 0)) := (Fr.refl noB w).alloc _
  have m0 := mpT_new w
  go_enter Tryz.func40, Tryz.ntmps40
  go_wp2_with fail
  generalize w.alloc (.map #[] 0) = W0 at f0 m0 ⊢
  obtain ⟨t, ht⟩ : ∃ t, t = w.heap.size := ⟨_, rfl⟩
  rw [← ht] at m0 ⊢
  have HT := Lib.hid ht
  clear ht
  go_loopg [9] rs.length (fun gk iv wr => OfR w rs t gk iv wr)
  case atStart => exact ⟨0, rfl, by omega, by omega, m0, f0⟩
  case round =>
    clear m0 f0
    obtain ⟨k, rfl, rfl, hk, hm, hf0⟩ := hrel
    by_cases hlt : k < rs.length
    · have i1 : (k : Int) < (rs.length : Int) := by omega
      have i0 : (0 : Int) ≤ (k : Int) := by omega
      obtain ⟨g, off, rfl, hg⟩ := hs.adC (by omega)
      have e1 : codR.rd wr g (off + k * 8) = some rs[k] := (hs.fr0 hf0).rd k hlt
      have hw1 := hw _ (List.getElem_mem hlt)
      have hnew := tab_put (nd_take hd hlt)
      rw [← List.take_succ_eq_append_getElem hlt] at hnew
      generalize rs[k] = r at e1 hw1 hnew
      have HN := Lib.hid hnew
      have hml := mpT_lt hm
      have fa : Fr noB wr (wr.alloc (codR.o r)) := (Fr.refl noB wr).alloc _
      have hm' := mpT_fr0 hm fa
      have q := rwAt (Cod.rd_new' (C := codR) wr r)
      obtain ⟨_, m1, m2, m3⟩ := mputT_all Tryz.underlying81 hm' hw1 (.agg (codR.A r))
      obtain ⟨q1, q2, q3, q4, q5, q6⟩ := q
      have HM := Lib.hid (And.intro m1 (And.intro m2 m3))
      have HG := Lib.hid hm
      clear m1 m2 m3 q2 q3 q4 q5 hm hnew
      go_wp2_with fail
      go_roundg (rs.length - (k + 1))
      case measure => omega
      case rel =>
        obtain ⟨m1, m2, m3⟩ := HM.out
        exact ⟨k + 1, by simp, rfl, by omega, by rw [m1, HN.out], (hf0.step0 fa).step1 m2 (by have := HT.out; omega)⟩
    · have hkn : k = rs.length := by omega
      subst hkn
      have i1 : ¬ (rs.length : Int) < (rs.length : Int) := by omega
      go_wp2_with fail
      go_ret
      exact ⟨t, rfl, by rw [hm, List.take_length], by have := HT.out; omega, hf0⟩
def DepR (w : World) (P : Nat) (xs : List RwP) (D : Nat) (gk : Nat) (nv : Value) (wr : World) : Prop := ∃ (n : Nat) (s : St), nv = .int .i64 (n : Int) ∧ codS.bxd wr P = some s ∧ wfS s = true ∧ reach xs gk s = true ∧ D = n + depthN xs gk s ∧ Fr noB w wr
set_option maxRecDepth 100000 in
set_option maxHeartbeats 1000000 in
theorem depth_any (w : World) (t : Nat) (rs : List RwW) (xs : List RwP) (hm : mpT w t = some (tab rs)) (hR : RwsIn w rs xs) (s : St) (hs : wfS s = true) (k : Nat) (hk : reach xs k s = true) (hb : k ≤ 1000000) :
    Calls Tryz.prog 57 #[.map (some t), .agg (codS.A s)] w (Gives w (.int .i64 (depthN xs k s))) := by
  have f0 : Fr noB w (w.alloc (.cells (codS.A s) 30)) := (Fr.refl noB w).alloc _
  have b0 := bxS_box w s
  have HD := Lib.hid (depth_le (rs := xs) k s)
  obtain ⟨D, hD⟩ : ∃ D, D = depthN xs k s := ⟨_, rfl⟩
  rw [← hD] at HD ⊢
  go_enter Tryz.func57, Tryz.ntmps57
  go_wp2_with fail
  generalize w.alloc (.cells (codS.A s) 30) = W0 at f0 b0 ⊢
  obtain ⟨P, hP⟩ : ∃ t, t = w.heap.size := ⟨_, rfl⟩
  rw [← hP] at b0 ⊢
  have HP := Lib.hid hP
  clear hP
  go_loopg [5] k (fun gk nv wr => DepR w P xs D gk nv wr)
  case atStart => exact ⟨0, s, rfl, b0, hs, hk, by omega, f0⟩
  case round =>
    clear b0 f0 hs hk
    obtain ⟨n, s', rfl, hbx, hw, hr, hd, hf⟩ := hrel
    have hnb : n ≤ 1000000 := by have := HD.out; omega
    obtain ⟨q1, q2⟩ := stCell (Cod.bxd_rd hbx)
    have q3 := Cod.bxd_rd hbx
    by_cases h0 : s'.T = 0
    · have hn : D = n := by rw [hd, depth_zero h0]; omega
      have HN := Lib.hid hn
      have HH := Lib.hid hD
      clear hd hn hD
      go_wp2_with fail
      go_ret
      exact ⟨by rw [HN.out]; rfl, hf⟩
    · obtain ⟨j, x, rfl, hx1, hx2, hx3⟩ := reach_next hr h0
      have hmr := mpT_fr0 hm hf
      obtain ⟨r, hlk, hin⟩ : ∃ r, Go.Proofs.YtefcalkbfaefgaaGreat.look (tab rs) s' = some (.agg (codR.A r)) ∧ RwIn w r x := by
        rcases hR.find s' with ⟨_, h2⟩ | ⟨r, y, h1, h2, h3⟩
        · rw [h2] at hx1; cases hx1
        · rw [h2] at hx1
          injection hx1 with hx1
          subst hx1
          exact ⟨r, by rw [look_tab, h1]; rfl, h3⟩
      have hst := okS.stR_box hbx r.Parent
      obtain ⟨p1, p2, p3⟩ := Cod.put_fr hbx r.Parent
      have hpp := hin.parent
      have HX := Lib.hid (And.intro hx2 (And.intro hx3 (And.intro hd hpp)))
      have HH := Lib.hid hD
      clear hx1 hx2 hx3 hd hD hpp hr
      go_wp2_with fail
      go_roundg j
      case measure => omega
      case rel =>
        obtain ⟨hx2, hx3, hd, hpp⟩ := HX.out
        rw [hpp] at hx2 hx3
        exact ⟨n + 1, r.Parent, by simp, p3, hin.wp, hx2, by rw [hd, hx3]; omega, hf.step1 p1 (by have := HP.out; omega)⟩
/-- the place's stamp, and is there one? -/
def PlTo (w : World) (o : Option St) (e : Ending) (w' : World) : Prop := e = .returned (.tuple #[.agg (codS.A (o.getD zSt)), .bool o.isSome]) ∧ Fr noB w w'
def PlaR (w : World) (P R : Nat) (xs : List RwP) (L : Nat) (o : Option St) (gk : Nat) (iv : Value) (wr : World) : Prop :=
  ∃ (i : Nat) (s : St), iv = .int .i64 (i : Int) ∧ gk = L - i ∧ i ≤ L ∧ codS.bxd wr P = some s ∧ codS.bxd wr R = some zSt ∧ wfS s = true ∧ placeN xs (L - i) s = o ∧ Fr noB w wr
theorem place_step {xs : List RwP} {k : Nat} {s : St} : placeN xs (k + 1) s = if s.T = 0 then some s else match findR xs s with
    | none => none
    | some r => placeN xs k r.Parent := rfl
set_option maxRecDepth 100000 in
set_option maxHeartbeats 1000000 in
theorem place_any (w : World) (t : Nat) (rs : List RwW) (xs : List RwP) (hm : mpT w t = some (tab rs)) (hR : RwsIn w rs xs) (hb : rs.length ≤ 140737488355328) (s : St) (hs : wfS s = true) :
    Calls Tryz.prog 41 #[.map (some t), .agg (codS.A s)] w (PlTo w (placeR xs s)) := by
  have f0 : Fr noB w ((w.alloc (.cells (codS.A s) 30)).alloc (codS.o zSt)) := ((Fr.refl noB w).alloc _).alloc _
  have b0 := Cod.bxd_fr0 (bxS_box w s) ((Fr.refl noB _).alloc (codS.o zSt))
  have b1 := Cod.bxd_new (C := codS) (w.alloc (.cells (codS.A s) 30)) zSt
  have hz : (w.alloc (.cells (codS.A s) 30)).heap.size = w.heap.size + 1 := by simp
  rw [hz] at b1
  have hm0 := mpT_fr0 hm f0
  have hl : (tab rs).length = xs.length := by rw [rtab_len, hR.len]
  have hxl : xs.length ≤ 140737488355328 := by rw [← hR.len]; exact hb
  have HRL := Lib.hid hl
  obtain ⟨L, hL⟩ : ∃ L : Nat, L = xs.length + 1 := ⟨_, rfl⟩
  have wl : IntKind.i64.wrap (((tab rs).length : Int) + 1) = (L : Int) := by rw [IntKind.wrap_i64, hl]; omega
  generalize ho : placeR xs s = o
  have HO := Lib.hid (show placeN xs (L - 0) s = o by rw [hL]; exact ho)
  have HL := Lib.hid hL
  clear ho hL hl hz
  go_enter Tryz.func41, Tryz.ntmps41
  go_upto_region 1 with fail
  generalize (w.alloc (.cells (codS.A s) 30)).alloc (codS.o zSt) = W0 at f0 b0 b1 hm0 ⊢
  obtain ⟨P, hP⟩ : ∃ t, t = w.heap.size := ⟨_, rfl⟩
  obtain ⟨R, hR'⟩ : ∃ t, t = w.heap.size + 1 := ⟨_, rfl⟩
  rw [← hP] at b0 ⊢
  rw [← hR'] at b1
  have HP := Lib.hid (And.intro hP hR')
  have eR : P + 1 = R := by omega
  rw [eR]
  clear hP hR' eR
  go_wp2_with fail
  clear wl
  go_loopg [11] L (fun gk iv wr => PlaR w P R xs L o gk iv wr)
  case atStart => exact ⟨0, s, rfl, by omega, by omega, b0, b1, hs, HO.out, f0⟩
  case round =>
    clear b0 b1 f0 hs hm0
    obtain ⟨i, s', rfl, rfl, hi, hbx, hbz, hw, ho, hf⟩ := hrel
    have HO' := Lib.hid ho
    clear ho
    obtain ⟨q1, q2⟩ := stCell (Cod.bxd_rd hbx)
    have q3 := Cod.bxd_rd hbx
    have HPR : P ≠ R := by have := HP.out; omega
    have hLb : (L : Int) ≤ 140737488355329 := by have := HL.out; omega
    by_cases hlt : i < L
    · have i1 : (i : Int) < (L : Int) := by omega
      have HS : Hid (placeN xs (L - (i + 1) + 1) s' = o) := by
        have := HO'.out
        rw [show L - i = L - (i + 1) + 1 by omega] at this
        exact this
      by_cases h0 : s'.T = 0
      · have hst := okS.stR_box hbz s'
        obtain ⟨p1, p2, p3⟩ := Cod.put_fr hbz s'
        have HE := Lib.hid (show o = some s' by rw [← HS.out, place_step, if_pos h0])
        go_wp2_with fail
        refine bodyPost_ret (ret_row_tmp okS rfl _ _ R s' (by rfl) p3) rfl ?_
        unfold PlTo
        rw [HE.out]
        exact ⟨rfl, hf.step1 p1 (by have := HP.out; omega)⟩
      · have hmr := mpT_fr0 hm hf
        rcases hR.find s' with ⟨h1, h2⟩ | ⟨r, y, h1, h2, h3⟩
        · have hlk : Go.Proofs.YtefcalkbfaefgaaGreat.look (tab rs) s' = none := by rw [look_tab, h1]; rfl
          have HE := Lib.hid (show o = none by rw [← HS.out, place_step, if_neg h0, h2])
          have fa : Fr noB wr (wr.alloc (codR.o zRwW)) := (Fr.refl noB wr).alloc _
          have hbz' := Cod.bxd_fr0 hbz fa
          have hst := okS.stR_box hbz' zSt
          obtain ⟨p1, p2, p3⟩ := Cod.put_fr hbz' zSt
          clear h1 h2
          go_wp2_with fail
          refine bodyPost_ret (ret_row_tmp okS rfl _ _ R zSt (by rfl) p3) rfl ?_
          unfold PlTo
          rw [HE.out]
          exact ⟨rfl, (hf.step0 fa).step1 p1 (by have := HP.out; omega)⟩
        · have hlk : Go.Proofs.YtefcalkbfaefgaaGreat.look (tab rs) s' = some (.agg (codR.A r)) := by rw [look_tab, h1]; rfl
          have HE := Lib.hid (show placeN xs (L - (i + 1)) r.Parent = o by rw [← h3.parent, ← HS.out, place_step, if_neg h0, h2])
          have fa : Fr noB wr (wr.alloc (codR.o r)) := (Fr.refl noB wr).alloc _
          have hbx' := Cod.bxd_fr0 hbx fa
          have hst := okS.stR_box hbx' r.Parent
          obtain ⟨p1, p2, p3⟩ := Cod.put_fr hbx' r.Parent
          have hbz' := Cod.bxd_fr (Cod.bxd_fr0 hbz fa) p1 (fun e => HPR (by have : R = P := e; exact this.symm))
          have q4 := (rwAt (Cod.rd_new' (C := codR) wr r)).parent
          have hwp := h3.wp
          clear h1 h2 h3
          go_wp2_with fail
          go_roundg (L - (i + 1))
          case measure => omega
          case rel => exact ⟨i + 1, r.Parent, by simp, rfl, by omega, p3, hbz', hwp, HE.out, (hf.step0 fa).step1 p1 (by have := HP.out; omega)⟩
    · have i1 : ¬ (i : Int) < (L : Int) := by omega
      have HE := Lib.hid (show o = none by
        have := HO'.out
        rw [show L - i = 0 by omega] at this
        exact this.symm)
      have hst := okS.stR_box hbz zSt
      obtain ⟨p1, p2, p3⟩ := Cod.put_fr hbz zSt
      go_wp2_with fail
      refine bodyPost_ret (ret_row_tmp okS rfl _ _ R zSt (by rfl) p3) rfl ?_
      unfold PlTo
      rw [HE.out]
      exact ⟨rfl, hf.step1 p1 (by have := HP.out; omega)⟩
end Go.Proofs.YtefcalkbfaefgaaGreat
