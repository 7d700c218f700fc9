/- The walks of the laws DeltaMakes and DeltaSelf. -/
import Derived.Test.YtifgaejmhaepoaaLawMake
namespace Go.Proofs.Ytifgaejmhaepoaa
open Go.RowKit
set_option linter.unusedVariables false
set_option linter.unusedSimpArgs false

theorem size_d (w : World) (D : Option Addr) (cd : Nat) (base target d : List UInt8) (k : Nat) (hk : d.length = k) (hD : Sl w D (bv d)) (hd : d.length ≤ 140737488351232) (hm : Made base target d) (ht : target.length ≤ 1048576) :
    Calls Try.prog 14 #[.slice D k cd] w (SizeTo w target.length 0) := by
  obtain ⟨steps, e, _⟩ := hm.told
  exact size_any w D cd d k hk hD hd target.length (steps, false) (by rw [e]; exact rdNum_numB _ _ _ ht (by omega))

set_option maxRecDepth 100000 in
set_option maxHeartbeats 1000000 in
theorem makes_any (w : World) (hm : HasM w) (A : Option Addr) (ca : Nat) (la : List UInt8) (hA : Sl w A (bv la)) (hca : la.length ≤ ca) (hla : la.length ≤ 140737488351232) (hna : A = none → ca = 0)
    (B : Option Addr) (cb : Nat) (lb : List UInt8) (hB : Sl w B (bv lb)) (hcb : lb.length ≤ cb) (hlb : lb.length ≤ 140737488351232) (hnb : B = none → cb = 0) :
    Calls Try.prog 7 #[.slice A la.length ca, .slice B lb.length cb] w (lawPost w) := by
  by_cases hlen : 20000 < la.length ∨ 20000 < lb.length
  · rcases (show 20000 < la.length ∨ (la.length ≤ 20000 ∧ 20000 < lb.length) by omega) with h1 | ⟨h1, h2⟩
    all_goals
      clear hlen
      go_enter Try.func7, Try.ntmps7
      go_wp2_with (first | (go_at_call 9; refine (applying_any _).mono ?_; rintro e w1 ⟨rfl, hf1⟩) | (go_at_call 15; refine (making_any _ (hm.fr0 hf1)).mono ?_; rintro e w2 ⟨rfl, hf2⟩))
      go_ret
      exact ⟨rfl, (hf1.step0 hf2).below⟩
  · have h1 : la.length ≤ 20000 := by omega
    have h2 : lb.length ≤ 20000 := by omega
    clear hlen
    obtain ⟨d, hd⟩ := made la lb (by omega) (by omega)
    have hl := hd.len
    have hl' : ((d.length : Int) ≤ (lb.length : Int) + 16) := by omega
    have HD := Lib.hid hd
    clear hd
    have hss : (str la).size + (str lb).size ≤ 40000 := by
      have e1 : (str la).size = la.length := by simp [str, ByteArray.size]
      have e2 : (str lb).size = lb.length := by simp [str, ByteArray.size]
      omega
    have t1 : True := trivial
    have t2 : True := trivial
    have t3 : True := trivial
    have t4 : True := trivial
    go_enter Try.func7, Try.ntmps7
    go_wp2_with (first
      | (go_at_call 9; refine (applying_any _).mono ?_; rintro e w1 ⟨rfl, hf1⟩)
      | (go_at_call 15; refine (making_any _ (hm.fr0 hf1)).mono ?_; rintro e w2 ⟨rfl, hf2⟩; have F2 := hf1.step0 hf2; have x1 := conv_str w2 A la.length ca la rfl (hA.fr0 F2); have x2 := conv_str w2 B lb.length cb lb rfl (hB.fr0 F2))
      | (go_at_call 16; have _t := t1; clear t1 _t; refine (make_d _ A B ca cb la lb d _ _ rfl rfl HD.out (hA.fr0 F2) (hB.fr0 F2) hca hcb hna (by omega) (hm.fr0 F2)).mono ?_; rintro e w3 ⟨A3, c3, rfl, hc3, hs3, hf3⟩; have F3 := F2.step0 hf3)
      | (go_at_call 10; refine (apply_d _ A A3 ca c3 la d _ _ rfl rfl (hA.fr0 F3) hs3 hca hc3 (by omega) (by omega) lb 0 (.inl ⟨HD.out.ap, rfl⟩)).mono ?_; rintro e w4 ⟨A4, c4, rfl, hc4, hs4, hf4⟩; have F4 := F3.step0 hf4; have F4' := F4.alloc (.cells #[] 5))
      | (at_builtin; have _t := t2; clear t2 _t; refine wpList_appT w _ rfl (.tmp 46) (.tmp 47) rfl (some ⟨w4.heap.size, 0, none⟩) _ 0 [] rfl rfl (own_empty w w4 F4.size) A _ _ la rfl (hA.fr0 F4') rfl (by simp; omega) F4' la rfl ?_; intro A5 c5 w5 hc5 ho5 hf5 hg5 _; have G5 : Fr noB w4 w5 := ((Fr.refl noB w4).alloc _).stepG hg5 (fun g hg => by simp at hg; omega); have F5' := hf5.alloc (.cells #[] 5))
      | (at_builtin; refine wpList_appT w5 _ rfl (.tmp 49) (.tmp 50) rfl (some ⟨w5.heap.size, 0, none⟩) _ 0 [] rfl rfl (own_empty w5 w5 (Nat.le_refl _)) B _ _ lb rfl (hB.fr0 F5') rfl (by simp; omega) ((Fr.refl noB w5).alloc _) lb rfl ?_; intro A6 c6 w6 hc6 ho6 hf6 _ _; have F6 := hf5.step0 hf6)
      | (go_at_call 16; refine (make_d _ A5 A6 c5 c6 la lb d _ _ rfl rfl HD.out ((Sl.own ho5).fr0 hf6) (Sl.own ho6) hc5 hc6 (own_nil ho5) (by omega) (hm.fr0 F6)).mono ?_; rintro e w7 ⟨A7, c7, rfl, hc7, hs7, hf7⟩; have G7 := (G5.step0 hf6).step0 hf7; have F7 := F6.step0 hf7)
      | (go_at_call 14; refine (size_d _ A3 c3 la lb d _ rfl ((hs3.fr0 hf4).fr0 G7) (by omega) HD.out (by omega)).mono ?_; rintro e w8 ⟨rfl, hf8⟩; have F8 := F7.step0 hf8)
      | (go_at_call 12; have _t := t3; clear t3 _t; refine (same_n _ A4 B c4 cb lb lb _ _ rfl rfl ((hs4.fr0 G7).fr0 hf8) (hB.fr0 F8) (by omega) (by omega) true (by simp)).mono ?_; rintro e w9 ⟨rfl, hf9⟩; have F9 := F8.step0 hf9)
      | (go_at_call 12; refine (same_n _ A3 A7 c3 c7 d d _ _ rfl rfl ((((hs3.fr0 hf4).fr0 G7).fr0 hf8).fr0 hf9) ((hs7.fr0 hf8).fr0 hf9) (by omega) (by omega) true (by simp)).mono ?_; rintro e w10 ⟨rfl, hf10⟩; have F10 := F9.step0 hf10; have x3 := conv_str w10 A la.length ca la rfl (hA.fr0 F10); have x4 := conv_str w10 B lb.length cb lb rfl (hB.fr0 F10)))
    go_ret
    exact ⟨by simp, F10.below⟩
end Go.Proofs.Ytifgaejmhaepoaa
