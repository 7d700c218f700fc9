/- The walk of the law DeltaShort. -/
import Derived.Test.YtifgaejmhaepoaaLawMake
namespace Go.Proofs.Ytifgaejmhaepoaa
open Go.RowKit
set_option linter.unusedVariables false
set_option linter.unusedSimpArgs false

set_option maxRecDepth 100000 in
set_option maxHeartbeats 1000000 in
theorem short_any (w : World) (hm : HasM w) (A : Option Addr) (ca : Nat) (la : List UInt8) (hA : Sl w A (bv la)) (hca : la.length ≤ ca) (hla : la.length ≤ 140737488351232) (hna : A = none → ca = 0)
    (B : Option Addr) (cb : Nat) (lb : List UInt8) (hB : Sl w B (bv lb)) (hcb : lb.length ≤ cb) (hlb : lb.length ≤ 140737488351232) (hnb : B = none → cb = 0)
    (C : Option Addr) (cc : Nat) (lc : List UInt8) (hC : Sl w C (bv lc)) (hcc : lc.length ≤ cc) (hlc : lc.length ≤ 140737488351232) (hnc : C = none → cc = 0) :
    Calls Try.prog 5 #[.slice A la.length ca, .slice B lb.length cb, .slice C lc.length cc] w (lawPost w) := by
  by_cases hlen : 20000 < la.length + lb.length + lc.length
  · go_enter Try.func5, Try.ntmps5
    go_wp2_with (first | (go_at_call 9; refine (applying_any _).mono ?_; rintro e w1 ⟨rfl, hf1⟩) | (go_at_call 15; refine (making_any _ (hm.fr0 hf1)).mono ?_; rintro e w2 ⟨rfl, hf2⟩))
    go_ret
    exact ⟨rfl, (hf1.step0 hf2).below⟩
  · obtain ⟨l2, hl2⟩ : ∃ l, l = la ++ lb := ⟨_, rfl⟩
    obtain ⟨l3, hl3⟩ : ∃ l, l = l2 ++ lc := ⟨_, rfl⟩
    have e2 : l2.length = la.length + lb.length := by rw [hl2, List.length_append]
    have e3 : l3.length = la.length + lb.length + lc.length := by rw [hl3, List.length_append]; omega
    have b2 : l2.length ≤ 20000 := by omega
    have b3 : l3.length ≤ 20000 := by omega
    obtain ⟨d, hd⟩ := made l3 lb (by omega) (by omega)
    have hl : d.length ≤ 16 := hd.short (.inl (by rw [hl3, hl2]; exact index_has la lb lc)) (by omega)
    have hl' : ((d.length : Int) ≤ 16) := by omega
    have HD := Lib.hid hd
    have H2 := Lib.hid hl2
    have H3 := Lib.hid hl3
    clear hd hl2 hl3 e2 e3
    have t1 : True := trivial
    have t2 : True := trivial
    go_enter Try.func5, Try.ntmps5
    go_wp2_with (first
      | (go_at_call 9; refine (applying_any _).mono ?_; rintro e w1 ⟨rfl, hf1⟩)
      | (go_at_call 15; refine (making_any _ (hm.fr0 hf1)).mono ?_; rintro e w2 ⟨rfl, hf2⟩; have F2 := hf1.step0 hf2; have F2' := F2.alloc (.cells #[] 5))
      | (at_builtin; have _t := t1; clear t1 _t; refine wpList_appT w _ rfl (.tmp 27) (.tmp 28) rfl (some ⟨w2.heap.size, 0, none⟩) _ 0 [] rfl rfl (own_empty w w2 F2.size) A _ _ la rfl (hA.fr0 F2') rfl (by simp; omega) F2' la rfl ?_; intro A3 c3 w3 hc3 ho3 hf3 _ _)
      | (at_builtin; have _t := t2; clear t2 _t; refine wpList_appT w _ rfl (.tmp 29) (.tmp 30) rfl A3 _ c3 la rfl rfl ho3 B _ _ lb rfl (hB.fr0 hf3) rfl (by omega) hf3 l2 H2.out ?_; intro A4 c4 w4 hc4 ho4 hf4 _ _)
      | (at_builtin; refine wpList_appT w _ rfl (.tmp 31) (.tmp 32) rfl A4 _ c4 l2 rfl rfl ho4 C _ _ lc rfl (hC.fr0 hf4) rfl (by omega) hf4 l3 H3.out ?_; intro A5 c5 w5 hc5 ho5 hf5 _ _)
      | (go_at_call 16; refine (make_d _ A5 B c5 cb l3 lb d _ _ rfl rfl HD.out (Sl.own ho5) (hB.fr0 hf5) hc5 hcb (own_nil ho5) (by omega) (hm.fr0 hf5)).mono ?_; rintro e w6 ⟨A6, c6, rfl, hc6, hs6, hf6⟩)
      | (go_at_call 10; refine (apply_d _ A5 A6 c5 c6 l3 d _ _ rfl rfl ((Sl.own ho5).fr0 hf6) hs6 hc5 hc6 (by omega) (by omega) lb 0 (.inl ⟨HD.out.ap, rfl⟩)).mono ?_; rintro e w7 ⟨A7, c7, rfl, hc7, hs7, hf7⟩)
      | (go_at_call 12; refine (same_n _ A7 B c7 cb lb lb _ _ rfl rfl hs7 (hB.fr0 ((hf5.step0 hf6).step0 hf7)) (by omega) (by omega) true (by simp)).mono ?_; rintro e w8 ⟨rfl, hf8⟩))
    go_ret
    exact ⟨rfl, (((hf5.step0 hf6).step0 hf7).step0 hf8).below⟩
end Go.Proofs.Ytifgaejmhaepoaa
