/- Contract: the reference's Reaches. -/
import Derived.Test.YtchiclnnoealdaaRefR
namespace Go.Proofs.Ytchiclnnoealdaa
open Go.RowKit Go.Maps Go.Sort Go.Shelf
set_option linter.unusedVariables false
set_option linter.unusedSimpArgs false

set_option maxRecDepth 100000 in
set_option maxHeartbeats 1000000 in
theorem refReaches_any (w : World) (A : Option Addr) (c n : Nat) (m : Md) (hn : m.length = n) (h : RfA w A m) (hk : okG m.reverse) (hb : m.length ≤ 1000000) (x y : ID) :
    Calls Try.prog 25 #[.slice A n c, encI x, encI y] w (Gives w (.bool (ancG m.reverse x y))) := by
  subst hn
  have f0 : Fr noB w ((w.alloc (aro x)).alloc (aro y)) := ((Fr.refl noB w).alloc _).alloc _
  have rx := rdI_fr (rd_arr w x) (by simp) ((Fr.refl noB (w.alloc (aro x))).alloc (aro y)) (by simp [noB])
  have ry := rd_arr (w.alloc (aro x)) y
  rw [World.size_alloc] at ry
  have HK := Lib.hid hk
  clear hk
  go_enter Try.func25, Try.ntmps25
  go_wp2_with fail
  generalize (w.alloc (aro x)).alloc (aro y) = W at rx ry f0 ⊢
  go_at_call 15
  refine (find_any W A c _ m rfl (h.fr0 f0) hb y).mono ?_
  rintro e w1 ⟨rfl, f1⟩
  have f01 := f0.step0 f1
  have rx1 := rdI_fr rx (rdI_lt rx) f1 (by simp [noB])
  by_cases hx : findN m y < m.length
  · have e1 : findI m y = (findN m y : Int) := by unfold findI; rw [if_pos hx]
    have e2 := findN_at hx
    rw [e1]
    generalize findN m y = a at hx e2 ⊢
    have a0 : (0 : Int) ≤ (a : Int) := by omega
    have a1 : (a : Int) < (m.length : Int) := by omega
    have fs : Fr noB w1 (w1.alloc (rowr [x])) := (Fr.refl noB w1).alloc _
    have sls := sl_newR w1 [x]
    have HE2 := Lib.hid e2
    clear e1 e2
    go_wp2_with fail
    go_at_call 35
    refine (reached_any _ A c _ m rfl ((h.fr0 f01).fr0 fs) HK.out hb _ _ _ [x] rfl sls (by simp)).mono ?_
    rintro e w2 ⟨Dr, rfl, ho, f2⟩
    have hc := ho.cell hx (by rw [List.getElem?_map, List.getElem?_eq_getElem hx]; rfl)
    simp only at hc
    rw [HE2.out, show reB m.reverse [x] y = ancG m.reverse x y by simp [reB]] at hc
    clear ho
    go_wp2_with fail
    go_ret
    exact ⟨rfl, (f01.step0 fs).step0 f2⟩
  · have e1 : findI m y = -1 := by unfold findI; rw [if_neg hx]
    have e3 : ancG m.reverse x y = false := by
      rw [← Bool.not_eq_true]
      intro ha
      exact hx ((findN_has m y).2 (anc_has HK.out ha).2)
    have HE := Lib.hid e3
    rw [e1]
    clear e1 e3
    go_wp2_with fail
    go_ret
    exact ⟨by rw [HE.out]; rfl, f01⟩
end Go.Proofs.Ytchiclnnoealdaa
